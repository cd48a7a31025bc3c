import Derived.Test.YtoiconebcmneiabQ17
import Derived.Test.YtoiconebcmneiabQ21
import Derived.Test.YtoiconebcmneiabQ14

section
/- The contract of the arms that balance loads, as the reference finds them. -/
namespace Go.Proofs.Ytoiconebcmneiab
open Go Go.RowKit

theorem rarms_err (l : List Rk) (hfits : ∀ r ∈ l, r.Fits) (A : Option Addr) (n c : Nat) (B : Option Addr) (m cb : Nat) (xs : List Int) (w : World) (hx : Reads w w.heap.size 5 A n (rkCells l)) (hn : n ≤ 100000) (hy : Reads w w.heap.size 1 B m (xs.map (.int .i64))) (hm : m ≤ 1000000) (h0 : openErr l = 0) (ps : List ByteArray) (hp : ptsOf l = some ps) (hps : ps.length ≤ 1000000) (E : Int) (hE : armsErr ps.length xs = E) (hE0 : E ≠ 0) :
    Calls Try.prog 21 #[.slice A n c, .slice B m cb] w fun e w' => e = .returned (.tuple #[.slice none 0 0, .int .i64 E]) ∧ Below w.heap.size w w' := by
  have hxl : xs.length = m := by have := hy.1; simpa using this
  have H0 := Lib.hid h0
  have HP := Lib.hid hp
  by_cases hmn : ps.length = m
  rotate_left
  · have e : E = 10 := by rw [← hE]; unfold armsErr; rw [if_pos (by omega)]
    subst e
    have hne : ((m : Int) != (ps.length : Int)) = true := bne_iff_ne.2 (by omega)
    clear hmn hp h0 hE
    go_enter Try.func21, Try.ntmps21
    have R0_0 := Lib.hid hx
    clear hx
    go_wp2_with fail
    refine (rpoints_any l hfits A n c _ _ R0_0.out (Nat.le_refl _) hn H0.out ps HP.out hps).mono ?_
    rintro e w1 ⟨hb, A1, c1, rfl, -⟩
    have HB1 := Lib.hid (show Below w.heap.size w w1 from step_below hb (by repeat' (first | exact Below.refl _ _ | exact HB0.out | refine below_drewN ?_ _ | refine Below.drew ?_ | refine Below.alloc ?_ (by first | omega | (simp; done) | (simp; omega) | (simp [World.setCell]; omega)) _ | refine Below.setCell ?_ (by first | omega | (simp; done) | (simp; omega)) _ | assumption)))
    have hL1 := Lib.hid (show Below w.heap.size w _ from reads_mid hb (by repeat' (first | exact Below.refl _ _ | refine below_drewN ?_ _ | refine Below.drew ?_ | refine Below.alloc ?_ (by first | omega | (simp; done) | (simp; omega) | (simp [World.setCell]; omega)) _ | refine Below.setCell ?_ (by first | omega | (simp; done) | (simp; omega)) _)))
    have R0_1 := Lib.hid (reads_lay hb hL1.out R0_0.out)
    clear hL1 R0_0
    have hz1 := hb.size
    try simp only [World.size_alloc, World.drewN, World.drew] at hz1
    clear hb
    go_wp2
    go_ret2
    refine ⟨rfl, ?_⟩
    repeat' (first | exact Below.refl _ _ | exact HB1.out | refine below_drewN ?_ _ | refine Below.drew ?_ | refine Below.alloc ?_ (by first | omega | (simp; done) | (simp; omega) | (simp [World.setCell]; omega)) _ | refine Below.setCell ?_ (by first | omega | (simp; done) | (simp; omega)) _ | assumption)
  · have hany : xs.any (fun z => !(withinB z 1 1000000)) = true := by
      cases ha : xs.any (fun z => !(withinB z 1 1000000)) with
      | true => rfl
      | false =>
        unfold armsErr at hE
        rw [if_neg (by omega), ha, if_neg (by simp)] at hE
        exact absurd hE.symm hE0
    have e : E = 2 := by rw [← hE]; unfold armsErr; rw [if_neg (by omega), hany]; rfl
    subst e
    have hne : ((m : Int) != (ps.length : Int)) = false := by rw [hmn]; simp
    have HANY := Lib.hid hany
    have HXL := Lib.hid hxl
    clear hmn hp h0 hE hany hxl
    go_enter Try.func21, Try.ntmps21
    have R0_0 := Lib.hid hx
    clear hx
    have R1_0 := Lib.hid hy
    clear hy
    go_wp2_with fail
    refine (rpoints_any l hfits A n c _ _ R0_0.out (Nat.le_refl _) hn H0.out ps HP.out hps).mono ?_
    rintro e w1 ⟨hb, A1, c1, rfl, -⟩
    have HB1 := Lib.hid (show Below w.heap.size w w1 from step_below hb (by repeat' (first | exact Below.refl _ _ | exact HB0.out | refine below_drewN ?_ _ | refine Below.drew ?_ | refine Below.alloc ?_ (by first | omega | (simp; done) | (simp; omega) | (simp [World.setCell]; omega)) _ | refine Below.setCell ?_ (by first | omega | (simp; done) | (simp; omega)) _ | assumption)))
    have hL1 := Lib.hid (show Below w.heap.size w _ from reads_mid hb (by repeat' (first | exact Below.refl _ _ | refine below_drewN ?_ _ | refine Below.drew ?_ | refine Below.alloc ?_ (by first | omega | (simp; done) | (simp; omega) | (simp [World.setCell]; omega)) _ | refine Below.setCell ?_ (by first | omega | (simp; done) | (simp; omega)) _)))
    have R0_1 := Lib.hid (reads_lay hb hL1.out R0_0.out)
    have R1_1 := Lib.hid (reads_lay hb hL1.out R1_0.out)
    clear hL1 R0_0 R1_0
    have hz1 := hb.size
    try simp only [World.size_alloc, World.drewN, World.drew] at hz1
    clear hb
    go_wp2
    go_loop [6] (fun i => ∃ k : Nat, k ≤ m ∧ i = .int .i64 k ∧ (xs.take k).any (fun z => !(withinB z 1 1000000)) = false) (fun i => m - (intOf i).toNat)
    case atStart => exact ⟨0, by omega, rfl, by simp⟩
    case round =>
      obtain ⟨k, hk, rfl, ht⟩ := hrel
      have HT := Lib.hid ht
      clear ht
      by_cases hlt : k < m
      · obtain ⟨yb, yo, z, rfl, hyb, hz, d0⟩ := int_at R1_1.out hlt
        have HZ := Lib.hid hz
        obtain ⟨t, htz⟩ : ∃ t, withinB z 1 1000000 = t := ⟨_, rfl⟩
        have HTZ := Lib.hid htz
        clear hz htz
        go_wp2_with fail
        refine (withinref_is _ _ _ t HTZ.out _).mono ?_
        rintro e w' ⟨rfl, rfl⟩
        cases t
        · go_wp2
          go_ret2
          refine ⟨rfl, ?_⟩
          repeat' (first | exact Below.refl _ _ | exact HB1.out | refine below_drewN ?_ _ | refine Below.drew ?_ | refine Below.alloc ?_ (by first | omega | (simp; done) | (simp; omega) | (simp [World.setCell]; omega)) _ | refine Below.setCell ?_ (by first | omega | (simp; done) | (simp; omega)) _ | assumption)
        · go_wp2
          go_round
          case rel => exact ⟨k + 1, by omega, by go_num, any_take HZ.out HT.out (by rw [HTZ.out]; rfl)⟩
          case measure => simp [intOf]; omega
      · exfalso
        have := HT.out
        rw [List.take_of_length_le (by rw [HXL.out]; omega), HANY.out] at this
        cases this

set_option maxRecDepth 100000 in
set_option maxHeartbeats 2000000 in
theorem rarms_two (l : List Rk) (hfits : ∀ r ∈ l, r.Fits) (A : Option Addr) (n c : Nat) (B : Option Addr) (m cb : Nat) (xs : List Int) (w : World) (hx : Reads w w.heap.size 5 A n (rkCells l)) (hn : n ≤ 1000) (hy : Reads w w.heap.size 1 B m (xs.map (.int .i64))) (hm : m ≤ 1000000) (h0 : openErr l = 0) (ps : List ByteArray) (hp : ptsOf l = some ps) (hps : ps.length ≤ 1000000) (hbl : ∀ s, (below_ l s).length ≤ 1000000) (hE : armsErr ps.length xs = 0) :
    Calls Try.prog 21 #[.slice A n c, .slice B m cb] w (ArmsPost l (sidesOf l ps xs) n w) := by
  have hxl : xs.length = m := by have := hy.1; simpa using this
  have hln := hx.len5
  obtain ⟨hmx, hany, hxs⟩ := arms_parts hE
  have hmn : ps.length = m := by omega
  have hxs0 : ∀ z ∈ xs, 0 ≤ z ∧ z ≤ 1000000 := fun z hz => by have := hxs z hz; omega
  have hside := fun (i : Nat) (r : Rk) (hr : l[i]? = some r) => And.intro (side_pos h0 hp hmx hxs hr (s := r.left) (.inl rfl)) (side_pos h0 hp hmx hxs hr (s := r.right) (.inr rfl))
  have hsubs : ∀ (i : Nat) (r : Rk), l[i]? = some r → ∀ s, r.left = s ∨ r.right = s → ∀ x ∈ below_ l s, x ∈ ps := fun i r hr s hs x hx => by
    rw [← points_below h0 hp]
    exact below_side h0 hr hs x hx
  obtain ⟨z0, -⟩ := open_zero h0
  have hnp : 0 < n := by omega
  have H0 := Lib.hid h0
  have HP := Lib.hid hp
  have HMN := Lib.hid hmn
  have HLN := Lib.hid hln
  have HSIDE := Lib.hid hside
  have HSUBS := Lib.hid hsubs
  have hsl : (sidesOf l ps xs).length = n := by unfold sidesOf; rw [List.length_map, hln]
  have HSL := Lib.hid hsl
  have hne : ((m : Int) != (ps.length : Int)) = false := by rw [hmn]; simp
  clear hp h0 hE hany hmn hmx hxl hln z0 hsl hside hsubs
  go_enter Try.func21, Try.ntmps21
  have R0_0 := Lib.hid hx
  clear hx
  have R1_0 := Lib.hid hy
  clear hy
  go_wp2_with fail
  refine (rpoints_any l hfits A n c _ _ R0_0.out (Nat.le_refl _) (by omega) H0.out ps HP.out hps).mono ?_
  rintro e w1 ⟨hb, A1, c1, rfl, -⟩
  have HB1 := Lib.hid (show Below w.heap.size w w1 from step_below hb (by repeat' (first | exact Below.refl _ _ | exact HB0.out | refine below_drewN ?_ _ | refine Below.drew ?_ | refine Below.alloc ?_ (by first | omega | (simp; done) | (simp; omega) | (simp [World.setCell]; omega)) _ | refine Below.setCell ?_ (by first | omega | (simp; done) | (simp; omega)) _ | assumption)))
  have hL1 := Lib.hid (show Below w.heap.size w _ from reads_mid hb (by repeat' (first | exact Below.refl _ _ | refine below_drewN ?_ _ | refine Below.drew ?_ | refine Below.alloc ?_ (by first | omega | (simp; done) | (simp; omega) | (simp [World.setCell]; omega)) _ | refine Below.setCell ?_ (by first | omega | (simp; done) | (simp; omega)) _)))
  have R0_1 := Lib.hid (reads_lay hb hL1.out R0_0.out)
  have R1_1 := Lib.hid (reads_lay hb hL1.out R1_0.out)
  clear hL1 R0_0 R1_0
  have hz1 := hb.size
  try simp only [World.size_alloc, World.drewN, World.drew] at hz1
  clear hb
  go_wp2
  go_loop [6] (fun i => ∃ k : Nat, k ≤ m ∧ i = .int .i64 k) (fun i => m - (intOf i).toNat)
  case atStart => exact ⟨0, by omega, rfl⟩
  case round =>
    obtain ⟨k, hk, rfl⟩ := hrel
    by_cases hlt : k < m
    · obtain ⟨yb, yo, z, rfl, hyb, hz, d0⟩ := int_at R1_1.out hlt
      have hzb := hxs z (List.mem_of_getElem? hz)
      have htz : withinB z 1 1000000 = true := (withinB_iff _ _ _).2 hzb
      have HTZ := Lib.hid htz
      clear hz htz
      go_wp2_with fail
      refine (withinref_is _ _ _ true HTZ.out _).mono ?_
      rintro e w' ⟨rfl, rfl⟩
      go_wp2
      go_round
      case rel => exact ⟨k + 1, by omega, by go_num⟩
      case measure => simp [intOf]; omega
    have hb1s := HB1.out.size
    obtain ⟨v', W2, hrun, ho, hb⟩ := copy_run (P := Try.prog) 23 23 90 _ 5 64 Try.underlying23 info_rk rfl (by omega) w1 w1.heap.size A n c (rkCells l) R0_1.out (Nat.le_refl _) (one_rk l) (by unfold maxLen; omega) (by omega)
    have HRUN := Lib.hid hrun
    obtain ⟨Ao, co, hv, -⟩ := own_reads ho
    subst hv
    obtain ⟨g, ext, rfl, hg, hnc, hblk⟩ := own_block ho hnp
    have HBLK := Lib.hid hblk
    have HB2 := Lib.hid hb
    clear hrun ho hblk hb
    go_wp2_with (first | (at_builtin; refine wpList_app _ W2 (.slice (some ⟨g, 0, none⟩) n co) rfl _ _ _ rfl _ _ rfl rfl HRUN.out ?_))
    go_wp2
    go_loopw [8] (fun i wr => ∃ k : Nat, k ≤ n ∧ i = .int .i64 k ∧ Below w1.heap.size w1 wr ∧
      Blk wr g 90 (rkCells (armsTo l (sidesOf l ps xs) k) ++ ext).toArray ∧ ((sidesOf l ps xs).take k).any bigA = false) (fun i _ => n - (intOf i).toNat)
    case atStart => exact ⟨0, by omega, rfl, HB2.out, by rw [armsTo_zero]; exact HBLK.out, by simp⟩
    case round =>
      obtain ⟨k, hk, rfl, hb, hblk, hbig⟩ := hrel
      have HBR := Lib.hid hb
      have HBK := Lib.hid hblk
      have HBG := Lib.hid hbig
      have hgr := hblk.lt
      have hbr := hb.size
      clear hb hblk hbig
      by_cases hlt : k < n
      · obtain ⟨zb, zo, r, rfl, hzb, hr, -, c1', c2', -, -⟩ := R0_1.out.rk hlt
        have hp : (sidesOf l ps xs)[k]? = some (underI l ps xs r.left, underI l ps xs r.right) := by
          unfold sidesOf; rw [List.getElem?_map, hr]; rfl
        have hpos := HSIDE.out k r hr
        have hs1 := sumF_bound (g := loadOf ps xs) (b := 1000000) (below_ l r.left) (fun s _ => loadOf_bound (by omega) hxs0 s)
        have hs2 := sumF_bound (g := loadOf ps xs) (b := 1000000) (below_ l r.right) (fun s _ => loadOf_bound (by omega) hxs0 s)
        have hs3 := hbl r.left
        have hs4 := hbl r.right
        have HSL1 := Lib.hid (HSUBS.out k r hr r.left (.inl rfl))
        have HSR1 := Lib.hid (HSUBS.out k r hr r.right (.inr rfl))
        obtain ⟨p1, hp1⟩ : ∃ z, underI l ps xs r.left = z := ⟨_, rfl⟩
        obtain ⟨p2, hp2⟩ : ∃ z, underI l ps xs r.right = z := ⟨_, rfl⟩
        have hu1 := hp1
        have hu2 := hp2
        unfold underI at hu1 hu2
        rw [hu1] at hs1
        rw [hu2] at hs2
        rw [hp1, hp2] at hp hpos
        have HP1 := Lib.hid hp1
        have HP2 := Lib.hid hp2
        have b1 : 1 ≤ p1 ∧ p1 ≤ 1000000000000 := by omega
        have b2 : 1 ≤ p2 ∧ p2 ≤ 1000000000000 := by omega
        have hgp : 0 < (Int.gcd p2 p1 : Int) := by exact_mod_cast Int.gcd_pos_of_ne_zero_left p1 (by omega)
        have hle : ∀ x : Int, 1 ≤ x → x ≤ 1000000000000 → 0 ≤ x / (Int.gcd p2 p1 : Int) ∧ x / (Int.gcd p2 p1 : Int) ≤ 1000000000000 := fun x h1 h2 => ⟨Int.ediv_nonneg (by omega) (by omega), Int.le_trans (Int.ediv_le_self _ (by omega)) h2⟩
        have a1 : 0 ≤ redN p2 p1 ∧ redN p2 p1 ≤ 1000000000000 := hle p2 b2.1 b2.2
        have a2 : 0 ≤ redD p2 p1 ∧ redD p2 p1 ≤ 1000000000000 := hle p1 b1.1 b1.2
        have HBA : Hid (bigA (p1, p2) = (decide (10000 < redN p2 p1) || decide (10000 < redD p2 p1))) := by show _ = _; rfl
        obtain ⟨al, hal⟩ : ∃ z, redN p2 p1 = z := ⟨_, rfl⟩
        obtain ⟨ar, har⟩ : ∃ z, redD p2 p1 = z := ⟨_, rfl⟩
        have HSUCC : Hid ((armsTo l (sidesOf l ps xs) k).set k { r with al := al, ar := ar } = armsTo l (sidesOf l ps xs) (k + 1)) := by
          show _ = _
          rw [← armsTo_succ hr hp, ← hal, ← har]; rfl
        have HGET : Hid ((armsTo l (sidesOf l ps xs) k)[k]? = some r) := armsTo_get (by rw [HSL.out, HLN.out]) hr (Nat.le_refl _)
        have HTK : Hid ((sidesOf l ps xs).take (k + 1) = (sidesOf l ps xs).take k ++ [(p1, p2)]) := by
          show _ = _
          rw [List.take_add_one, hp]; rfl
        rw [hal] at a1
        rw [har] at a2
        simp only [hal, har] at HBA
        have HAL := Lib.hid hal
        have HAR := Lib.hid har
        have hsz : k * 5 + 4 < (rkCells (armsTo l (sidesOf l ps xs) k) ++ ext).toArray.size := by
          rw [List.size_toArray, List.length_append, rkCells_five, armsTo_len (by rw [HSL.out, HLN.out]), HLN.out]; omega
        obtain ⟨cs, hcs⟩ : ∃ cs, (rkCells (armsTo l (sidesOf l ps xs) k) ++ ext).toArray = cs := ⟨_, rfl⟩
        have HCS := Lib.hid hcs
        have HK := Lib.hid (hcs ▸ HBK.out)
        rw [hcs] at hsz
        have f1 := (HBR.out.cell (p := ⟨zb, zo + k * 5 + 1, none⟩) hzb).trans c1'
        have f2 := (HBR.out.cell (p := ⟨zb, zo + k * 5 + 2, none⟩) hzb).trans c2'
        have hzr : zb < wr.heap.size := by omega
        have HXR := Lib.hid ((R0_1.out.below HBR.out).more hbr)
        have HYR := Lib.hid ((R1_1.out.below HBR.out).more hbr)
        clear hr hp hpos hp1 hp2 hu1 hu2 c1' c2' hs1 hs2 hgp hle hal har HBK hcs
        go_wp2
        refine Fx.regionG (MkD 53 (.int .i64 al) (.int .i64 ar) 18) (fun x : Nat => .pointer (some ⟨x, 0, none⟩)) 17 (by kernel_rfl) (by kernel_rfl) (by kernel_rfl) ?_ ?_
        · intro f hf0
          exact MkD.start (below_drewN (Below.refl _ _) 1)
        repeat (first
          | (refine Fx.skipE_ (by rfl) (fun g f w h => h) ?_; simp only [Act.put, List.setIfInBounds_toArray, List.set_cons_zero, List.set_cons_succ])
          | (refine Fx.valE_ ?_ (by rfl) ?_ (fun g f w h => h) ?_
             rotate_left
             · intro g f w' hD hk
               obtain ⟨hb, hg⟩ := id hD
               have g1 := (hb.cell (p := ⟨zb, zo + k * 5 + 1, none⟩) hzr).trans f1
               have g2 := (hb.cell (p := ⟨zb, zo + k * 5 + 2, none⟩) hzr).trans f2
               clear hk hD hb hg
               go_simp
               try rfl
             simp only [Act.put, List.setIfInBounds_toArray, List.set_cons_zero, List.set_cons_succ]))
        refine Fx.callvE_ (.int .i64 p2) ?_ ?_ (by rfl) ?_ ?_ ?_
        rotate_left 2
        · intro w'
          go_simp
          refine ⟨?_, ?_⟩ <;> rfl
        · intro g f w' hD hk
          exact (under_is l hfits _ n c B m cb xs r.right p2 _ ps HP2.out ((HXR.out.below hD.1).more hD.1.size) (by omega) ((HYR.out.below hD.1).more hD.1.size) H0.out HP.out hps HMN.out hxs0 hs4 HSR1.out).mono fun e w'' ⟨he, hw⟩ => ⟨he, hD.step hw (by decide)⟩
        simp only [Act.put, List.setIfInBounds_toArray, List.set_cons_zero, List.set_cons_succ]
        repeat (first
          | (refine Fx.skipE_ (by rfl) (fun g f w h => h) ?_; simp only [Act.put, List.setIfInBounds_toArray, List.set_cons_zero, List.set_cons_succ])
          | (refine Fx.valE_ ?_ (by rfl) ?_ (fun g f w h => h) ?_
             rotate_left
             · intro g f w' hD hk
               obtain ⟨hb, hg⟩ := id hD
               have g1 := (hb.cell (p := ⟨zb, zo + k * 5 + 1, none⟩) hzr).trans f1
               have g2 := (hb.cell (p := ⟨zb, zo + k * 5 + 2, none⟩) hzr).trans f2
               clear hk hD hb hg
               go_simp
               try rfl
             simp only [Act.put, List.setIfInBounds_toArray, List.set_cons_zero, List.set_cons_succ]))
        refine Fx.callvE_ (.int .i64 p1) ?_ ?_ (by rfl) ?_ ?_ ?_
        rotate_left 2
        · intro w'
          go_simp
          refine ⟨?_, ?_⟩ <;> rfl
        · intro g f w' hD hk
          exact (under_is l hfits _ n c B m cb xs r.left p1 _ ps HP1.out ((HXR.out.below hD.1).more hD.1.size) (by omega) ((HYR.out.below hD.1).more hD.1.size) H0.out HP.out hps HMN.out hxs0 hs3 HSL1.out).mono fun e w'' ⟨he, hw⟩ => ⟨he, hD.step hw (by decide)⟩
        simp only [Act.put, List.setIfInBounds_toArray, List.set_cons_zero, List.set_cons_succ]
        repeat (first
          | (refine Fx.skipE_ (by rfl) (fun g f w h => h) ?_; simp only [Act.put, List.setIfInBounds_toArray, List.set_cons_zero, List.set_cons_succ])
          | (refine Fx.valE_ ?_ (by rfl) ?_ (fun g f w h => h) ?_
             rotate_left
             · intro g f w' hD hk
               obtain ⟨hb, hg⟩ := id hD
               have g1 := (hb.cell (p := ⟨zb, zo + k * 5 + 1, none⟩) hzr).trans f1
               have g2 := (hb.cell (p := ⟨zb, zo + k * 5 + 2, none⟩) hzr).trans f2
               clear hk hD hb hg
               go_simp
               try rfl
             simp only [Act.put, List.setIfInBounds_toArray, List.set_cons_zero, List.set_cons_succ]))
        refine Fx.callvE_ (.agg #[.int .i64 al, .int .i64 ar]) ?_ ?_ (by rfl) ?_ ?_ ?_
        rotate_left 2
        · intro w'
          go_simp
          refine ⟨?_, ?_⟩ <;> rfl
        · intro g f w' hD hk
          exact (lowest_red p2 p1 _ _ HAL.out HAR.out _ (by omega) (by omega) (by omega) (by omega)).mono fun e w'' ⟨he, hw⟩ => ⟨he, hD.step hw (by decide)⟩
        simp only [Act.put, List.setIfInBounds_toArray, List.set_cons_zero, List.set_cons_succ]
        repeat (first
          | (refine Fx.skipE_ (by rfl) (fun g f w h => h) ?_; simp only [Act.put, List.setIfInBounds_toArray, List.set_cons_zero, List.set_cons_succ])
          | (refine Fx.valE_ ?_ (by rfl) ?_ (fun g f w h => h) ?_
             rotate_left
             · intro g f w' hD hk
               obtain ⟨hb, hg⟩ := id hD
               have g1 := (hb.cell (p := ⟨zb, zo + k * 5 + 1, none⟩) hzr).trans f1
               have g2 := (hb.cell (p := ⟨zb, zo + k * 5 + 2, none⟩) hzr).trans f2
               clear hk hD hb hg
               go_simp
               try rfl
             simp only [Act.put, List.setIfInBounds_toArray, List.set_cons_zero, List.set_cons_succ]))
        refine Fx.makeE_ (by rfl) (by rfl) ?_ ?_
        · intro f w' hD hk
          refine ⟨w'.heap.size, w'.alloc (.cells #[.int .i64 0, .int .i64 0] 53), ?_, ?_⟩
          · clear hD hk
            go_simp
            try rfl
          · exact hD.make (hk.2.1 18 (by kernel_rfl)) (by decide)
        intro x
        simp only [Act.put, List.setIfInBounds_toArray, List.set_cons_zero, List.set_cons_succ]
        refine Fx.store_ (fun w' => (w'.setCell ⟨x, 0, none⟩ (.int .i64 al)).setCell ⟨x, 1, none⟩ (.int .i64 ar)) (by rfl) ?_ ?_ ?_
        · intro f w' hD hk
          obtain ⟨hb, hg⟩ := id hD
          obtain ⟨e0, e1, r1, r2, r3, r4⟩ := MkD.cells hD
          clear hk hD
          go_simp
        · intro f w' hD hk
          obtain ⟨hb, hg⟩ := id hD
          obtain ⟨e0, e1, r1, r2, r3, r4⟩ := MkD.cells hD
          exact hD.store
        simp only [Act.put, List.setIfInBounds_toArray, List.set_cons_zero, List.set_cons_succ]
        repeat (first
          | (refine Fx.skip_ (by rfl) (fun f w h => h) ?_; simp only [Act.put, List.setIfInBounds_toArray, List.set_cons_zero, List.set_cons_succ])
          | (refine Fx.val_ ?_ (by rfl) ?_ (fun f w h => h) ?_
             rotate_left
             · intro f w' hD hk
               obtain ⟨hb, hg⟩ := id hD
               have g1 := (hb.cell (p := ⟨zb, zo + k * 5 + 1, none⟩) hzr).trans f1
               have g2 := (hb.cell (p := ⟨zb, zo + k * 5 + 2, none⟩) hzr).trans f2
               clear hk hD hb hg
               go_simp
               try rfl
             simp only [Act.put, List.setIfInBounds_toArray, List.set_cons_zero, List.set_cons_succ]))
        refine Fx.nil_ ?_
        intro f w1 hall hD
        have hf18 := hall 18 (by simp)
        obtain ⟨hb, hg⟩ := hD
        simp only [hf18, if_true] at *
        obtain ⟨hx1, e0, e1, hx2, hx3⟩ := hg x rfl
        obtain ⟨rfl, rfl⟩ := hx3 (by first | rfl | trivial | assumption)
        obtain ⟨w5, hnm⟩ : ∃ z : World, z = w1 := ⟨_, rfl⟩
        subst hnm
        have hxr : wr.heap.size ≤ x := hx1
        have HBW : Hid (Below wr.heap.size wr w5) := hb
        have h5s := hb.size
        have f3 : w5.cell? ⟨x, 0, none⟩ = some (.int .i64 al) := hx2.cell 0
        have f4 : w5.cell? ⟨x, 1, none⟩ = some (.int .i64 ar) := hx2.cell 1
        have hxl := hx2.lt
        have HK5 := Lib.hid (HK.out.below hb hgr)
        have hxg : x ≠ g := by omega
        have hg5 : g < w5.heap.size := by omega
        clear hb hg hx1 hx2 hx3 HK f1 f2
        obtain ⟨bq, hbq⟩ : ∃ b, (decide (10000 < al) || decide (10000 < ar)) = b := ⟨_, rfl⟩
        have HBQ : Hid (bigA (p1, p2) = bq) := by show _ = _; rw [HBA.out, hbq]
        clear HBA
        cases bq
        · simp only [Bool.or_eq_false_iff, decide_eq_false_iff_not] at hbq
          obtain ⟨q1, q2⟩ := hbq
          go_wp2
          have x5 := Lib.hid f3
          have x6 := Lib.hid f4
          refine Fx.regionW (fun W f w' => UpB 90 (g) (cs) (k * 5 + 3) (k * 5 + 4) (.int .i64 al) (.int .i64 ar) 10 13 W f w') (by kernel_rfl) (by kernel_rfl) ?_ ?_
          · intro f hf0
            exact UpB.start (Blk.drewN HK5.out 1) (hf0 10) (hf0 13)
          repeat (first
            | (refine Fx.skip_ (by rfl) (fun f w h => h) ?_; simp only [Act.put, List.setIfInBounds_toArray, List.set_cons_zero, List.set_cons_succ])
            | (refine Fx.val_ ?_ (by rfl) ?_ (fun f w h => h) ?_
               rotate_left
               · intro f w' hD hk
                 obtain ⟨hb, ho, hrest⟩ := id hD
                 have x0 := (cell_block (p := ⟨x, 0, none⟩) (ho _ hxg)).trans x5.out
                 have x1 := (cell_block (p := ⟨x, 1, none⟩) (ho _ hxg)).trans x6.out
                 clear hk hD hb ho hrest
                 go_simp
                 try rfl
               simp only [Act.put, List.setIfInBounds_toArray, List.set_cons_zero, List.set_cons_succ]))
          refine Fx.store_ (fun w' => w'.setCell ⟨g, k * 5 + 3, none⟩ (.int .i64 al)) (by rfl) ?_ ?_ ?_
          · intro f w' hD hk
            obtain ⟨hb, ho, hrest⟩ := id hD
            obtain ⟨uq, uf⟩ := UpB.at_ hD (i := k * 5 + 3) (by omega)
            obtain ⟨uv, uq⟩ := uq
            clear hb ho hrest
            clear hk hD
            go_simp
          · intro f w' hD hk
            obtain ⟨hb, ho, hrest⟩ := id hD
            obtain ⟨uq, uf⟩ := UpB.at_ hD (i := k * 5 + 3) (by omega)
            obtain ⟨uv, uq⟩ := uq
            clear hb ho hrest
            exact hD.store0 (by decide) (by omega)
          simp only [Act.put, List.setIfInBounds_toArray, List.set_cons_zero, List.set_cons_succ]
          repeat (first
            | (refine Fx.skip_ (by rfl) (fun f w h => h) ?_; simp only [Act.put, List.setIfInBounds_toArray, List.set_cons_zero, List.set_cons_succ])
            | (refine Fx.val_ ?_ (by rfl) ?_ (fun f w h => h) ?_
               rotate_left
               · intro f w' hD hk
                 obtain ⟨hb, ho, hrest⟩ := id hD
                 have x0 := (cell_block (p := ⟨x, 0, none⟩) (ho _ hxg)).trans x5.out
                 have x1 := (cell_block (p := ⟨x, 1, none⟩) (ho _ hxg)).trans x6.out
                 clear hk hD hb ho hrest
                 go_simp
                 try rfl
               simp only [Act.put, List.setIfInBounds_toArray, List.set_cons_zero, List.set_cons_succ]))
          refine Fx.store_ (fun w' => w'.setCell ⟨g, k * 5 + 4, none⟩ (.int .i64 ar)) (by rfl) ?_ ?_ ?_
          · intro f w' hD hk
            obtain ⟨hb, ho, hrest⟩ := id hD
            obtain ⟨uq, uf⟩ := UpB.at_ hD (i := k * 5 + 4) (by omega)
            obtain ⟨uv, uq⟩ := uq
            clear hb ho hrest
            clear hk hD
            go_simp
          · intro f w' hD hk
            obtain ⟨hb, ho, hrest⟩ := id hD
            obtain ⟨uq, uf⟩ := UpB.at_ hD (i := k * 5 + 4) (by omega)
            obtain ⟨uv, uq⟩ := uq
            clear hb ho hrest
            exact hD.store1 (by decide)
          simp only [Act.put, List.setIfInBounds_toArray, List.set_cons_zero, List.set_cons_succ]
          refine Fx.nil_ ?_
          intro f w6 hall hD
          obtain ⟨hb, ho, hblk⟩ := UpB.end_ hD (hall 10 (by simp)) (hall 13 (by simp))
          clear hall hD
          have hk6 : Blk w6 g 90 (rkCells (armsTo l (sidesOf l ps xs) (k + 1)) ++ ext).toArray := by
            rw [← HSUCC.out, ← rk_store HGET.out, HCS.out]; exact hblk
          have HK6 := Lib.hid hk6
          have HB6 : Hid (Below w1.heap.size w1 w6) := HBR.out.trans ((HBW.out.mono hbr).trans (hb.mono (by omega)))
          clear hb ho hblk hk6 x5 x6
          go_wp2
          go_roundw
          case rel => exact ⟨k + 1, by omega, by go_num, HB6.out, HK6.out, by rw [HTK.out, List.any_append, HBG.out]; simp [HBQ.out]⟩
          case measure => simp [intOf]; omega
        · have HBAD : Hid ((sidesOf l ps xs).any bigA = true) := by
            show _ = _
            rw [← List.take_append_drop (k + 1) (sidesOf l ps xs), List.any_append, HTK.out, List.any_append]
            simp [HBQ.out]
          have HBE := Lib.hid (HB1.out.trans ((HBR.out.trans (HBW.out.mono hbr)).mono hb1s))
          by_cases q1 : 10000 < al
          · go_wp2
            go_ret2
            exact ⟨HBE.out, .inl ⟨HBAD.out, rfl⟩⟩
          · have q2 : 10000 < ar := by simpa [q1] using hbq
            clear hbq
            go_wp2
            go_ret2
            exact ⟨HBE.out, .inl ⟨HBAD.out, rfl⟩⟩
      · have hkn : k = n := by omega
        rw [hkn] at HBK HBG
        clear hkn
        have hlen := armsTo_len (l := l) (S := sidesOf l ps xs) (by rw [HSL.out, HLN.out]) n
        have hr := Blk.reads_pre (n := n) (size := 5) HBK.out (by rw [rkCells_five, hlen, HLN.out])
        rw [← HLN.out, armsTo_all (by rw [HSL.out, HLN.out]), HLN.out] at hr
        have HRR := Lib.hid hr
        have HNO : Hid ((sidesOf l ps xs).any bigA = false) := by
          show _ = _
          have := HBG.out
          rwa [List.take_of_length_le (by rw [HSL.out]; omega)] at this
        have HBE := Lib.hid (HB1.out.trans (HBR.out.mono hb1s))
        clear hr hlen
        go_wp2
        go_ret2
        exact ⟨HBE.out, .inr ⟨HNO.out, _, _, rfl, HRR.out⟩⟩

end Go.Proofs.Ytoiconebcmneiab

end
