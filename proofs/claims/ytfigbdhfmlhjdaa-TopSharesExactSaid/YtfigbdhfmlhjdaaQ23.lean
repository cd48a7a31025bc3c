import Derived.Test.YtfigbdhfmlhjdaaQ22

section
/- The reference's pivot of a thing: the recursion. -/
namespace Go.Proofs.Ytfigbdhfmlhjdaa
open Go Go.RowKit

set_option maxRecDepth 100000 in
set_option maxHeartbeats 8000000 in
theorem rpivot_any (l : List Rk) (harms : ArmsOK l) (g : ByteArray → Int) (hg : ∀ s, -1000000 ≤ g s ∧ g s ≤ 1000000) (A : Option Addr) (n c N : Nat) (P : Option Addr) (m cp : Nat) (B : Option Addr) (cb : Nat) (points : List ByteArray) (xs : List (Int × Int)) (ax : Nat) (hax : ax < 2) (hn : n ≤ 100000) (hm : m ≤ 1000000)
    (hgp : ∀ (k : Nat) (s : ByteArray) (p : Int × Int), points[k]? = some s → xs[k]? = some p → (if ax = 0 then p.1 else p.2) = g s) (hxl : xs.length = m) (hpl : points.length = m) :
    ∀ (f : Nat) (name : ByteArray) (ps : List ByteArray) (w : World), pts l f name = some ps → (∀ x ∈ ps, x ∈ points) → N ≤ w.heap.size → Reads w N 5 A n (rkCells l) → Reads w N 1 P m (strs points) → Reads w N 2 B m (cells2 xs) →
      Calls Try.prog 34 #[.slice A n c, .string name, .slice P m cp, .slice B m cb, .int .i64 (ax : Int)] w fun e w' => e = pvE (pvF l g f name) ∧ Below w.heap.size w w' := by
  have leaf : ∀ (f : Nat) (name : ByteArray) (ps : List ByteArray) (w : World), idxOf l name = none → pts l f name = some ps → (∀ x ∈ ps, x ∈ points) → N ≤ w.heap.size → Reads w N 5 A n (rkCells l) → Reads w N 1 P m (strs points) → Reads w N 2 B m (cells2 xs) →
      Calls Try.prog 34 #[.slice A n c, .string name, .slice P m cp, .slice B m cb, .int .i64 (ax : Int)] w fun e w' => e = pvE (pvF l g f name) ∧ Below w.heap.size w w' := fun f name ps w hi hp hs hN hx hP hB => by
    rw [pts_leaf hi] at hp
    obtain rfl := Option.some.inj hp
    obtain ⟨k, hk, hf⟩ := mem_first (hs name (by simp))
    have hkl := (List.getElem?_eq_some_iff.1 hk).1
    have hxk := List.getElem?_eq_getElem (show k < xs.length by omega)
    have hz := hgp k name _ hk hxk
    refine (rpivot_leaf l A n c N P m cp B cb points xs ax hax hn hm name k _ (g name) hz w hi hk hf hxk hN hx hP hB).mono fun e w' ⟨he, hb⟩ => ⟨?_, hb⟩
    rw [he, pv_leaf g f hi]
    rfl
  intro f
  induction f with
  | zero =>
    intro name ps w hp hs hN hx hP hB
    have hi : idxOf l name = none := by
      unfold pts at hp
      cases hq : idxOf l name with
      | none => rfl
      | some i => rw [hq] at hp; cases hp
    exact leaf 0 name ps w hi hp hs hN hx hP hB
  | succ f ih =>
    intro name ps w hp hs hN hx hP hB
    cases hi : idxOf l name with
    | none => exact leaf (f + 1) name ps w hi hp hs hN hx hP hB
    | some i =>
      clear leaf
      unfold pts at hp
      rw [hi] at hp
      simp only at hp
      cases hr : l[i]? with
      | none => rw [hr] at hp; cases hp
      | some r =>
        rw [hr] at hp
        simp only at hp
        cases hpa : pts l f r.left with
        | none => rw [hpa] at hp; cases hp
        | some pa =>
          cases hpb : pts l f r.right with
          | none => rw [hpa, hpb] at hp; cases hp
          | some pb =>
            rw [hpa, hpb] at hp
            obtain rfl : pa ++ pb = ps := Option.some.inj hp
            have hin : i < n := by
              have := (List.getElem?_eq_some_iff.1 hr).1
              rw [hx.len5] at this; exact this
            have hii : (i : Int) < (n : Int) := by omega
            obtain ⟨zb, zo, r', hAe, hzb, hr', -, c1, c2, c3, c4⟩ := hx.rk hin
            obtain rfl := Option.some.inj (hr'.symm.trans hr)
            obtain ⟨a1, a2, a3, a4⟩ := harms r' (List.mem_of_getElem? hr)
            have hzw : zb < w.heap.size := Nat.lt_of_lt_of_le hzb hN
            have HF : Hid (findI l name = (i : Int)) := by show _ = _; unfold findI; rw [hi]
            have HPV := Lib.hid (pv_succ (g := g) (f := f) hi hr)
            have HX := Lib.hid hx
            have HPP := Lib.hid hP
            have HB0 := Lib.hid hB
            obtain ⟨oa, hoa⟩ : ∃ o, pvF l g f r'.left = o := ⟨_, rfl⟩
            obtain ⟨ob, hob⟩ : ∃ o, pvF l g f r'.right = o := ⟨_, rfl⟩
            have IHL := Lib.hid (show ∀ w', Below w.heap.size w w' → Calls Try.prog 34 #[.slice A n c, .string r'.left, .slice P m cp, .slice B m cb, .int .i64 (ax : Int)] w' (fun e w'' => e = pvE oa ∧ Below w'.heap.size w' w'') from fun w' hb => by
              rw [← hoa]
              exact ih r'.left pa w' hpa (fun x hx => hs x (List.mem_append_left _ hx)) (Nat.le_trans hN hb.size) (hx.below (hb.mono hN)) (hP.below (hb.mono hN)) (hB.below (hb.mono hN)))
            have IHR := Lib.hid (show ∀ w', Below w.heap.size w w' → Calls Try.prog 34 #[.slice A n c, .string r'.right, .slice P m cp, .slice B m cb, .int .i64 (ax : Int)] w' (fun e w'' => e = pvE ob ∧ Below w'.heap.size w' w'') from fun w' hb => by
              rw [← hob]
              exact ih r'.right pb w' hpb (fun x hx => hs x (List.mem_append_right _ hx)) (Nat.le_trans hN hb.size) (hx.below (hb.mono hN)) (hP.below (hb.mono hN)) (hB.below (hb.mono hN)))
            have HOA := Lib.hid (fun a (e : oa = some a) => pv_ok harms hg (hoa.trans e))
            have HOB := Lib.hid (fun a (e : ob = some a) => pv_ok harms hg (hob.trans e))
            rw [hoa, hob] at HPV
            have HC1 := Lib.hid c1
            have HC2 := Lib.hid c2
            have HC3 := Lib.hid c3
            have HC4 := Lib.hid c4
            obtain ⟨⟨xa, ya⟩, hqa⟩ : ∃ q, resV oa = q := ⟨_, rfl⟩
            obtain ⟨⟨xb, yb⟩, hqb⟩ : ∃ q, resV ob = q := ⟨_, rfl⟩
            obtain ⟨ba, hba⟩ : ∃ q, oa.isSome = q := ⟨_, rfl⟩
            obtain ⟨bb, hbb⟩ : ∃ q, ob.isSome = q := ⟨_, rfl⟩
            have hea : pvE oa = .returned (.tuple #[.agg #[.int .i64 xa, .int .i64 ya], .bool ba]) := by unfold pvE; rw [hqa, hba]
            have heb : pvE ob = .returned (.tuple #[.agg #[.int .i64 xb, .int .i64 yb], .bool bb]) := by unfold pvE; rw [hqb, hbb]
            rw [hea] at IHL
            rw [heb] at IHR
            have HQA := Lib.hid hqa
            have HQB := Lib.hid hqb
            have HBA := Lib.hid hba
            have HBB := Lib.hid hbb
            subst hAe
            clear ih hp hpa hpb hs hx hP hB hr' hi hr hoa hob c1 c2 c3 c4 hqa hqb hba hbb hea heb hgp
            go_enter Try.func34, Try.ntmps34
            go_wp2_with fail
            generalize hwn : (w.alloc (.cells #[.int .i64 (0), .int .i64 (0)] 35)) = w1
            have hbn : Below w.heap.size w w1 := by rw [← hwn]; repeat' (first | exact Below.refl _ _ | refine below_drewN ?_ _ | refine Below.drew ?_ | refine Below.alloc ?_ (by first | omega | (simp; done) | (simp; omega) | (simp [World.setCell]; omega)) _ | refine Below.setCell ?_ (by first | omega | (simp; done) | (simp; omega)) _)
            have HB1 := Lib.hid (show Below w.heap.size w w1 from hbn)
            have K0_1 := Lib.hid (show Blk w1 (w.heap.size) 35 #[.int .i64 (0), .int .i64 (0)] by rw [← hwn]; repeat' (first | exact Blk.at_ _ (by first | rfl | (simp; done) | (simp; omega)) _ _ | refine Blk.drewN ?_ _ | refine Blk.drew ?_ | refine Blk.alloc ?_ _ | refine Blk.far ?_ (by first | omega | (simp; done) | (simp; omega)) _ | assumption))
            have HN1 := Lib.hid hbn
            have hz1 := hbn.size
            clear hwn hbn
            have l0_1 : w.heap.size < w1.heap.size := K0_1.out.lt
            have z0_0_1 : w1.cell? ⟨w.heap.size, 0, none⟩ = some (.int .i64 (0)) := K0_1.out.cell 0
            have z0_1_1 : w1.cell? ⟨w.heap.size, 1, none⟩ = some (.int .i64 (0)) := K0_1.out.cell 1
            have d1 := (HB1.out.cell (p := ⟨zb, zo + i * 5 + 1, none⟩) hzw).trans HC1.out
            go_wp2_with fail
            refine (find_is l _ n c N name (i : Int) HF.out _ (HX.out.below (HB1.out.mono hN)) (by omega)).mono ?_
            rintro e w' ⟨rfl, rfl⟩
            go_wp2_with fail
            refine (IHL.out _ HB1.out).mono ?_
            rintro e w2 ⟨rfl, hb⟩
            have HB2 := Lib.hid (show Below w.heap.size w w2 from step_below hb (by repeat' (first | exact Below.refl _ _ | exact HB1.out | refine below_drewN ?_ _ | refine Below.drew ?_ | refine Below.alloc ?_ (by first | omega | (simp; done) | (simp; omega) | (simp [World.setCell]; omega)) _ | refine Below.setCell ?_ (by first | omega | (simp; done) | (simp; omega)) _ | assumption)))
            have K0_2 := Lib.hid (step_blk hb (show Blk _ (w.heap.size) 35 #[.int .i64 (0), .int .i64 (0)] by repeat' (first | exact K0_1.out | exact Blk.at_ _ (by first | rfl | (simp; done) | (simp; omega)) _ _ | refine Blk.drewN ?_ _ | refine Blk.drew ?_ | refine Blk.alloc ?_ _ | refine Blk.far ?_ (by first | omega | (simp; done) | (simp; omega)) _ | assumption)))
            have hz2 := hb.size
            try simp only [World.size_alloc, World.drewN, World.drew] at hz2
            clear hb K0_1 z0_0_1 z0_1_1 l0_1
            have l0_2 : w.heap.size < w2.heap.size := K0_2.out.lt
            have z0_0_2 : w2.cell? ⟨w.heap.size, 0, none⟩ = some (.int .i64 (0)) := K0_2.out.cell 0
            have z0_1_2 : w2.cell? ⟨w.heap.size, 1, none⟩ = some (.int .i64 (0)) := K0_2.out.cell 1
            clear d1
            go_upto_region 5 with fail
            generalize hwn : (w2.alloc (.cells #[.int .i64 (xa), .int .i64 (ya)] 35)) = w3
            have hbn : Below w2.heap.size w2 w3 := by rw [← hwn]; repeat' (first | exact Below.refl _ _ | refine below_drewN ?_ _ | refine Below.drew ?_ | refine Below.alloc ?_ (by first | omega | (simp; done) | (simp; omega) | (simp [World.setCell]; omega)) _ | refine Below.setCell ?_ (by first | omega | (simp; done) | (simp; omega)) _)
            have HB3 := Lib.hid (show Below w.heap.size w w3 from HB2.out.trans (hbn.mono HB2.out.size))
            have K0_3 := Lib.hid (step_blk hbn K0_2.out)
            have K1_3 := Lib.hid (show Blk w3 (w2.heap.size) 35 #[.int .i64 (xa), .int .i64 (ya)] by rw [← hwn]; repeat' (first | exact Blk.at_ _ (by first | rfl | (simp; done) | (simp; omega)) _ _ | refine Blk.drewN ?_ _ | refine Blk.drew ?_ | refine Blk.alloc ?_ _ | refine Blk.far ?_ (by first | omega | (simp; done) | (simp; omega)) _ | assumption))
            have HN3 := Lib.hid hbn
            have hz3 := hbn.size
            clear hwn hbn K0_2 l0_2 z0_0_2 z0_1_2
            have l0_3 : w.heap.size < w3.heap.size := K0_3.out.lt
            have z0_0_3 : w3.cell? ⟨w.heap.size, 0, none⟩ = some (.int .i64 (0)) := K0_3.out.cell 0
            have z0_1_3 : w3.cell? ⟨w.heap.size, 1, none⟩ = some (.int .i64 (0)) := K0_3.out.cell 1
            have l1_3 : w2.heap.size < w3.heap.size := K1_3.out.lt
            have z1_0_3 : w3.cell? ⟨w2.heap.size, 0, none⟩ = some (.int .i64 (xa)) := K1_3.out.cell 0
            have z1_1_3 : w3.cell? ⟨w2.heap.size, 1, none⟩ = some (.int .i64 (ya)) := K1_3.out.cell 1
            have d2 := (HB3.out.cell (p := ⟨zb, zo + i * 5 + 2, none⟩) hzw).trans HC2.out
            go_wp2_with fail
            refine (IHR.out _ HB3.out).mono ?_
            rintro e w4 ⟨rfl, hb⟩
            have HB4 := Lib.hid (show Below w.heap.size w w4 from step_below hb (by repeat' (first | exact Below.refl _ _ | exact HB3.out | refine below_drewN ?_ _ | refine Below.drew ?_ | refine Below.alloc ?_ (by first | omega | (simp; done) | (simp; omega) | (simp [World.setCell]; omega)) _ | refine Below.setCell ?_ (by first | omega | (simp; done) | (simp; omega)) _ | assumption)))
            have K0_4 := Lib.hid (step_blk hb (show Blk _ (w.heap.size) 35 #[.int .i64 (0), .int .i64 (0)] by repeat' (first | exact K0_3.out | exact K1_3.out | exact Blk.at_ _ (by first | rfl | (simp; done) | (simp; omega)) _ _ | refine Blk.drewN ?_ _ | refine Blk.drew ?_ | refine Blk.alloc ?_ _ | refine Blk.far ?_ (by first | omega | (simp; done) | (simp; omega)) _ | assumption)))
            have K1_4 := Lib.hid (step_blk hb (show Blk _ (w2.heap.size) 35 #[.int .i64 (xa), .int .i64 (ya)] by repeat' (first | exact K0_3.out | exact K1_3.out | exact Blk.at_ _ (by first | rfl | (simp; done) | (simp; omega)) _ _ | refine Blk.drewN ?_ _ | refine Blk.drew ?_ | refine Blk.alloc ?_ _ | refine Blk.far ?_ (by first | omega | (simp; done) | (simp; omega)) _ | assumption)))
            have hz4 := hb.size
            try simp only [World.size_alloc, World.drewN, World.drew] at hz4
            clear hb K0_3 K1_3 z0_0_3 z0_1_3 l0_3 z1_0_3 z1_1_3 l1_3
            have l0_4 : w.heap.size < w4.heap.size := K0_4.out.lt
            have z0_0_4 : w4.cell? ⟨w.heap.size, 0, none⟩ = some (.int .i64 (0)) := K0_4.out.cell 0
            have z0_1_4 : w4.cell? ⟨w.heap.size, 1, none⟩ = some (.int .i64 (0)) := K0_4.out.cell 1
            have l1_4 : w2.heap.size < w4.heap.size := K1_4.out.lt
            have z1_0_4 : w4.cell? ⟨w2.heap.size, 0, none⟩ = some (.int .i64 (xa)) := K1_4.out.cell 0
            have z1_1_4 : w4.cell? ⟨w2.heap.size, 1, none⟩ = some (.int .i64 (ya)) := K1_4.out.cell 1
            clear d2
            go_upto_region 6 with fail
            generalize hwn : (w4.alloc (.cells #[.int .i64 (xb), .int .i64 (yb)] 35)) = w5
            have hbn : Below w4.heap.size w4 w5 := by rw [← hwn]; repeat' (first | exact Below.refl _ _ | refine below_drewN ?_ _ | refine Below.drew ?_ | refine Below.alloc ?_ (by first | omega | (simp; done) | (simp; omega) | (simp [World.setCell]; omega)) _ | refine Below.setCell ?_ (by first | omega | (simp; done) | (simp; omega)) _)
            have HB5 := Lib.hid (show Below w.heap.size w w5 from HB4.out.trans (hbn.mono HB4.out.size))
            have K0_5 := Lib.hid (step_blk hbn K0_4.out)
            have K1_5 := Lib.hid (step_blk hbn K1_4.out)
            have K2_5 := Lib.hid (show Blk w5 (w4.heap.size) 35 #[.int .i64 (xb), .int .i64 (yb)] by rw [← hwn]; repeat' (first | exact Blk.at_ _ (by first | rfl | (simp; done) | (simp; omega)) _ _ | refine Blk.drewN ?_ _ | refine Blk.drew ?_ | refine Blk.alloc ?_ _ | refine Blk.far ?_ (by first | omega | (simp; done) | (simp; omega)) _ | assumption))
            have HN5 := Lib.hid hbn
            have hz5 := hbn.size
            clear hwn hbn K0_4 l0_4 z0_0_4 z0_1_4 K1_4 l1_4 z1_0_4 z1_1_4
            have l0_5 : w.heap.size < w5.heap.size := K0_5.out.lt
            have z0_0_5 : w5.cell? ⟨w.heap.size, 0, none⟩ = some (.int .i64 (0)) := K0_5.out.cell 0
            have z0_1_5 : w5.cell? ⟨w.heap.size, 1, none⟩ = some (.int .i64 (0)) := K0_5.out.cell 1
            have l1_5 : w2.heap.size < w5.heap.size := K1_5.out.lt
            have z1_0_5 : w5.cell? ⟨w2.heap.size, 0, none⟩ = some (.int .i64 (xa)) := K1_5.out.cell 0
            have z1_1_5 : w5.cell? ⟨w2.heap.size, 1, none⟩ = some (.int .i64 (ya)) := K1_5.out.cell 1
            have l2_5 : w4.heap.size < w5.heap.size := K2_5.out.lt
            have z2_0_5 : w5.cell? ⟨w4.heap.size, 0, none⟩ = some (.int .i64 (xb)) := K2_5.out.cell 0
            have z2_1_5 : w5.cell? ⟨w4.heap.size, 1, none⟩ = some (.int .i64 (yb)) := K2_5.out.cell 1
            cases ba with
            | false =>
              have HPN := Lib.hid (show pvF l g (f + 1) name = none by
                rw [HPV.out]
                cases oa with
                | none => cases ob <;> rfl
                | some a => exact absurd HBA.out (by simp))
              have sc0 := (K0_5.out).cell 0
              have sf0 := (K0_5.out).frozen 0
              have sk0 : Blk (w5.setCell ⟨w.heap.size, 0, none⟩ (.int .i64 (0))) (w.heap.size) 35 #[.int .i64 (0), .int .i64 (0)] := by simpa using (K0_5.out).set_ 0 (.int .i64 (0))
              have sc1 := (sk0).cell 1
              have sf1 := (sk0).frozen 1
              have sk1 : Blk ((w5.setCell ⟨w.heap.size, 0, none⟩ (.int .i64 (0))).setCell ⟨w.heap.size, 1, none⟩ (.int .i64 (0))) (w.heap.size) 35 #[.int .i64 (0), .int .i64 (0)] := by simpa using (sk0).set_ 1 (.int .i64 (0))
              have sK := Lib.hid sk1
              have sd0 := sk1.cell 0
              have sd1 := sk1.cell 1
              clear sk0 sk1
              go_wp2
              exact bodyPost_ret (v := .tuple #[.agg #[.int .i64 0, .int .i64 0], .bool false]) (by simp [results, Try.results34, go_sem, sd0, sd1]) rfl ⟨by rw [HPN.out]; rfl, by repeat' (first | exact Below.refl _ _ | exact HB5.out | refine below_drewN ?_ _ | refine Below.drew ?_ | refine Below.alloc ?_ (by first | omega | (simp; done) | (simp; omega) | (simp [World.setCell]; omega)) _ | refine Below.setCell ?_ (by first | omega | (simp; done) | (simp; omega)) _ | assumption)⟩
            | true =>
            cases bb with
            | false =>
              have HPN := Lib.hid (show pvF l g (f + 1) name = none by
                rw [HPV.out]
                cases ob with
                | none => cases oa <;> rfl
                | some a => exact absurd HBB.out (by simp))
              have sc0 := (K0_5.out).cell 0
              have sf0 := (K0_5.out).frozen 0
              have sk0 : Blk (w5.setCell ⟨w.heap.size, 0, none⟩ (.int .i64 (0))) (w.heap.size) 35 #[.int .i64 (0), .int .i64 (0)] := by simpa using (K0_5.out).set_ 0 (.int .i64 (0))
              have sc1 := (sk0).cell 1
              have sf1 := (sk0).frozen 1
              have sk1 : Blk ((w5.setCell ⟨w.heap.size, 0, none⟩ (.int .i64 (0))).setCell ⟨w.heap.size, 1, none⟩ (.int .i64 (0))) (w.heap.size) 35 #[.int .i64 (0), .int .i64 (0)] := by simpa using (sk0).set_ 1 (.int .i64 (0))
              have sK := Lib.hid sk1
              have sd0 := sk1.cell 0
              have sd1 := sk1.cell 1
              clear sk0 sk1
              go_wp2
              exact bodyPost_ret (v := .tuple #[.agg #[.int .i64 0, .int .i64 0], .bool false]) (by simp [results, Try.results34, go_sem, sd0, sd1]) rfl ⟨by rw [HPN.out]; rfl, by repeat' (first | exact Below.refl _ _ | exact HB5.out | refine below_drewN ?_ _ | refine Below.drew ?_ | refine Below.alloc ?_ (by first | omega | (simp; done) | (simp; omega) | (simp [World.setCell]; omega)) _ | refine Below.setCell ?_ (by first | omega | (simp; done) | (simp; omega)) _ | assumption)⟩
            | true =>
            obtain ⟨a, ha⟩ := Option.isSome_iff_exists.1 HBA.out
            obtain ⟨b, hb⟩ := Option.isSome_iff_exists.1 HBB.out
            have HA := Lib.hid (HOA.out a ha)
            have HB := Lib.hid (HOB.out b hb)
            subst ha hb
            obtain rfl : a = (xa, ya) := HQA.out
            obtain rfl : b = (xb, yb) := HQB.out
            have HPS := Lib.hid (show pvF l g (f + 1) name = pstF (xa, ya) (xb, yb) r'.al r'.ar from HPV.out)
            clear HPV HQA HQB HBA HBB HOA HOB IHL IHR
            cases hd : subF (xb, yb) (xa, ya) with
            | none =>
              have HD := Lib.hid hd
              have HPN := Lib.hid (show pvF l g (f + 1) name = none by rw [HPS.out]; unfold pstF; rw [HD.out])
              clear hd
              go_wp2_with fail
              refine (refSub_no (xb, yb) (xa, ya) HB.out HA.out HD.out _).mono ?_
              rintro e w6 ⟨rfl, hb⟩
              have HB6 := Lib.hid (show Below w.heap.size w w6 from step_below hb (by repeat' (first | exact Below.refl _ _ | exact HB5.out | refine below_drewN ?_ _ | refine Below.drew ?_ | refine Below.alloc ?_ (by first | omega | (simp; done) | (simp; omega) | (simp [World.setCell]; omega)) _ | refine Below.setCell ?_ (by first | omega | (simp; done) | (simp; omega)) _ | assumption)))
              have K0_6 := Lib.hid (step_blk hb (show Blk _ (w.heap.size) 35 #[.int .i64 (0), .int .i64 (0)] by repeat' (first | exact K0_5.out | exact K1_5.out | exact K2_5.out | exact Blk.at_ _ (by first | rfl | (simp; done) | (simp; omega)) _ _ | refine Blk.drewN ?_ _ | refine Blk.drew ?_ | refine Blk.alloc ?_ _ | refine Blk.far ?_ (by first | omega | (simp; done) | (simp; omega)) _ | assumption)))
              have K1_6 := Lib.hid (step_blk hb (show Blk _ (w2.heap.size) 35 #[.int .i64 (xa), .int .i64 (ya)] by repeat' (first | exact K0_5.out | exact K1_5.out | exact K2_5.out | exact Blk.at_ _ (by first | rfl | (simp; done) | (simp; omega)) _ _ | refine Blk.drewN ?_ _ | refine Blk.drew ?_ | refine Blk.alloc ?_ _ | refine Blk.far ?_ (by first | omega | (simp; done) | (simp; omega)) _ | assumption)))
              have K2_6 := Lib.hid (step_blk hb (show Blk _ (w4.heap.size) 35 #[.int .i64 (xb), .int .i64 (yb)] by repeat' (first | exact K0_5.out | exact K1_5.out | exact K2_5.out | exact Blk.at_ _ (by first | rfl | (simp; done) | (simp; omega)) _ _ | refine Blk.drewN ?_ _ | refine Blk.drew ?_ | refine Blk.alloc ?_ _ | refine Blk.far ?_ (by first | omega | (simp; done) | (simp; omega)) _ | assumption)))
              have hz6 := hb.size
              try simp only [World.size_alloc, World.drewN, World.drew] at hz6
              clear hb K0_5 K1_5 K2_5 z0_0_5 z0_1_5 l0_5 z1_0_5 z1_1_5 l1_5 z2_0_5 z2_1_5 l2_5
              have l0_6 : w.heap.size < w6.heap.size := K0_6.out.lt
              have z0_0_6 : w6.cell? ⟨w.heap.size, 0, none⟩ = some (.int .i64 (0)) := K0_6.out.cell 0
              have z0_1_6 : w6.cell? ⟨w.heap.size, 1, none⟩ = some (.int .i64 (0)) := K0_6.out.cell 1
              have l1_6 : w2.heap.size < w6.heap.size := K1_6.out.lt
              have z1_0_6 : w6.cell? ⟨w2.heap.size, 0, none⟩ = some (.int .i64 (xa)) := K1_6.out.cell 0
              have z1_1_6 : w6.cell? ⟨w2.heap.size, 1, none⟩ = some (.int .i64 (ya)) := K1_6.out.cell 1
              have l2_6 : w4.heap.size < w6.heap.size := K2_6.out.lt
              have z2_0_6 : w6.cell? ⟨w4.heap.size, 0, none⟩ = some (.int .i64 (xb)) := K2_6.out.cell 0
              have z2_1_6 : w6.cell? ⟨w4.heap.size, 1, none⟩ = some (.int .i64 (yb)) := K2_6.out.cell 1
              go_upto_region 9 with fail
              generalize hwn : (w6.alloc (.cells #[.int .i64 (0), .int .i64 (0)] 35)) = w7
              have hbn : Below w6.heap.size w6 w7 := by rw [← hwn]; repeat' (first | exact Below.refl _ _ | refine below_drewN ?_ _ | refine Below.drew ?_ | refine Below.alloc ?_ (by first | omega | (simp; done) | (simp; omega) | (simp [World.setCell]; omega)) _ | refine Below.setCell ?_ (by first | omega | (simp; done) | (simp; omega)) _)
              have HB7 := Lib.hid (show Below w.heap.size w w7 from HB6.out.trans (hbn.mono HB6.out.size))
              have K0_7 := Lib.hid (step_blk hbn K0_6.out)
              have K1_7 := Lib.hid (step_blk hbn K1_6.out)
              have K2_7 := Lib.hid (step_blk hbn K2_6.out)
              have K3_7 := Lib.hid (show Blk w7 (w6.heap.size) 35 #[.int .i64 (0), .int .i64 (0)] by rw [← hwn]; repeat' (first | exact Blk.at_ _ (by first | rfl | (simp; done) | (simp; omega)) _ _ | refine Blk.drewN ?_ _ | refine Blk.drew ?_ | refine Blk.alloc ?_ _ | refine Blk.far ?_ (by first | omega | (simp; done) | (simp; omega)) _ | assumption))
              have HN7 := Lib.hid hbn
              have hz7 := hbn.size
              clear hwn hbn K0_6 l0_6 z0_0_6 z0_1_6 K1_6 l1_6 z1_0_6 z1_1_6 K2_6 l2_6 z2_0_6 z2_1_6
              have l0_7 : w.heap.size < w7.heap.size := K0_7.out.lt
              have z0_0_7 : w7.cell? ⟨w.heap.size, 0, none⟩ = some (.int .i64 (0)) := K0_7.out.cell 0
              have z0_1_7 : w7.cell? ⟨w.heap.size, 1, none⟩ = some (.int .i64 (0)) := K0_7.out.cell 1
              have l1_7 : w2.heap.size < w7.heap.size := K1_7.out.lt
              have z1_0_7 : w7.cell? ⟨w2.heap.size, 0, none⟩ = some (.int .i64 (xa)) := K1_7.out.cell 0
              have z1_1_7 : w7.cell? ⟨w2.heap.size, 1, none⟩ = some (.int .i64 (ya)) := K1_7.out.cell 1
              have l2_7 : w4.heap.size < w7.heap.size := K2_7.out.lt
              have z2_0_7 : w7.cell? ⟨w4.heap.size, 0, none⟩ = some (.int .i64 (xb)) := K2_7.out.cell 0
              have z2_1_7 : w7.cell? ⟨w4.heap.size, 1, none⟩ = some (.int .i64 (yb)) := K2_7.out.cell 1
              have l3_7 : w6.heap.size < w7.heap.size := K3_7.out.lt
              have z3_0_7 : w7.cell? ⟨w6.heap.size, 0, none⟩ = some (.int .i64 (0)) := K3_7.out.cell 0
              have z3_1_7 : w7.cell? ⟨w6.heap.size, 1, none⟩ = some (.int .i64 (0)) := K3_7.out.cell 1
              have sc0 := (K0_7.out).cell 0
              have sf0 := (K0_7.out).frozen 0
              have sk0 : Blk (w7.setCell ⟨w.heap.size, 0, none⟩ (.int .i64 (0))) (w.heap.size) 35 #[.int .i64 (0), .int .i64 (0)] := by simpa using (K0_7.out).set_ 0 (.int .i64 (0))
              have sc1 := (sk0).cell 1
              have sf1 := (sk0).frozen 1
              have sk1 : Blk ((w7.setCell ⟨w.heap.size, 0, none⟩ (.int .i64 (0))).setCell ⟨w.heap.size, 1, none⟩ (.int .i64 (0))) (w.heap.size) 35 #[.int .i64 (0), .int .i64 (0)] := by simpa using (sk0).set_ 1 (.int .i64 (0))
              have sK := Lib.hid sk1
              have sd0 := sk1.cell 0
              have sd1 := sk1.cell 1
              clear sk0 sk1
              go_wp2
              exact bodyPost_ret (v := .tuple #[.agg #[.int .i64 0, .int .i64 0], .bool false]) (by simp [results, Try.results34, go_sem, sd0, sd1]) rfl ⟨by rw [HPN.out]; rfl, by repeat' (first | exact Below.refl _ _ | exact HB7.out | refine below_drewN ?_ _ | refine Below.drew ?_ | refine Below.alloc ?_ (by first | omega | (simp; done) | (simp; omega) | (simp [World.setCell]; omega)) _ | refine Below.setCell ?_ (by first | omega | (simp; done) | (simp; omega)) _ | assumption)⟩
            | some d =>
            obtain ⟨xd, yd⟩ := d
            have HD := Lib.hid hd
            have HDK := Lib.hid (show FOk (xd, yd) from by
              obtain ⟨p1, p2, -, -⟩ := HA.out.parts
              obtain ⟨q1, q2, -, -⟩ := HB.out.parts
              exact opF_ok (den_in q1 q2 p1 p2).1 hd)
            clear hd
            go_wp2_with fail
            refine (refSub_ok (xb, yb) (xa, ya) HB.out HA.out (xd, yd) HD.out _).mono ?_
            rintro e w6 ⟨rfl, hb⟩
            have HB6 := Lib.hid (show Below w.heap.size w w6 from step_below hb (by repeat' (first | exact Below.refl _ _ | exact HB5.out | refine below_drewN ?_ _ | refine Below.drew ?_ | refine Below.alloc ?_ (by first | omega | (simp; done) | (simp; omega) | (simp [World.setCell]; omega)) _ | refine Below.setCell ?_ (by first | omega | (simp; done) | (simp; omega)) _ | assumption)))
            have K0_6 := Lib.hid (step_blk hb (show Blk _ (w.heap.size) 35 #[.int .i64 (0), .int .i64 (0)] by repeat' (first | exact K0_5.out | exact K1_5.out | exact K2_5.out | exact Blk.at_ _ (by first | rfl | (simp; done) | (simp; omega)) _ _ | refine Blk.drewN ?_ _ | refine Blk.drew ?_ | refine Blk.alloc ?_ _ | refine Blk.far ?_ (by first | omega | (simp; done) | (simp; omega)) _ | assumption)))
            have K1_6 := Lib.hid (step_blk hb (show Blk _ (w2.heap.size) 35 #[.int .i64 (xa), .int .i64 (ya)] by repeat' (first | exact K0_5.out | exact K1_5.out | exact K2_5.out | exact Blk.at_ _ (by first | rfl | (simp; done) | (simp; omega)) _ _ | refine Blk.drewN ?_ _ | refine Blk.drew ?_ | refine Blk.alloc ?_ _ | refine Blk.far ?_ (by first | omega | (simp; done) | (simp; omega)) _ | assumption)))
            have K2_6 := Lib.hid (step_blk hb (show Blk _ (w4.heap.size) 35 #[.int .i64 (xb), .int .i64 (yb)] by repeat' (first | exact K0_5.out | exact K1_5.out | exact K2_5.out | exact Blk.at_ _ (by first | rfl | (simp; done) | (simp; omega)) _ _ | refine Blk.drewN ?_ _ | refine Blk.drew ?_ | refine Blk.alloc ?_ _ | refine Blk.far ?_ (by first | omega | (simp; done) | (simp; omega)) _ | assumption)))
            have hz6 := hb.size
            try simp only [World.size_alloc, World.drewN, World.drew] at hz6
            clear hb K0_5 K1_5 K2_5 z0_0_5 z0_1_5 l0_5 z1_0_5 z1_1_5 l1_5 z2_0_5 z2_1_5 l2_5
            have l0_6 : w.heap.size < w6.heap.size := K0_6.out.lt
            have z0_0_6 : w6.cell? ⟨w.heap.size, 0, none⟩ = some (.int .i64 (0)) := K0_6.out.cell 0
            have z0_1_6 : w6.cell? ⟨w.heap.size, 1, none⟩ = some (.int .i64 (0)) := K0_6.out.cell 1
            have l1_6 : w2.heap.size < w6.heap.size := K1_6.out.lt
            have z1_0_6 : w6.cell? ⟨w2.heap.size, 0, none⟩ = some (.int .i64 (xa)) := K1_6.out.cell 0
            have z1_1_6 : w6.cell? ⟨w2.heap.size, 1, none⟩ = some (.int .i64 (ya)) := K1_6.out.cell 1
            have l2_6 : w4.heap.size < w6.heap.size := K2_6.out.lt
            have z2_0_6 : w6.cell? ⟨w4.heap.size, 0, none⟩ = some (.int .i64 (xb)) := K2_6.out.cell 0
            have z2_1_6 : w6.cell? ⟨w4.heap.size, 1, none⟩ = some (.int .i64 (yb)) := K2_6.out.cell 1
            go_upto_region 9 with fail
            generalize hwn : (w6.alloc (.cells #[.int .i64 (xd), .int .i64 (yd)] 35)) = w7
            have hbn : Below w6.heap.size w6 w7 := by rw [← hwn]; repeat' (first | exact Below.refl _ _ | refine below_drewN ?_ _ | refine Below.drew ?_ | refine Below.alloc ?_ (by first | omega | (simp; done) | (simp; omega) | (simp [World.setCell]; omega)) _ | refine Below.setCell ?_ (by first | omega | (simp; done) | (simp; omega)) _)
            have HB7 := Lib.hid (show Below w.heap.size w w7 from HB6.out.trans (hbn.mono HB6.out.size))
            have K0_7 := Lib.hid (step_blk hbn K0_6.out)
            have K1_7 := Lib.hid (step_blk hbn K1_6.out)
            have K2_7 := Lib.hid (step_blk hbn K2_6.out)
            have K3_7 := Lib.hid (show Blk w7 (w6.heap.size) 35 #[.int .i64 (xd), .int .i64 (yd)] by rw [← hwn]; repeat' (first | exact Blk.at_ _ (by first | rfl | (simp; done) | (simp; omega)) _ _ | refine Blk.drewN ?_ _ | refine Blk.drew ?_ | refine Blk.alloc ?_ _ | refine Blk.far ?_ (by first | omega | (simp; done) | (simp; omega)) _ | assumption))
            have HN7 := Lib.hid hbn
            have hz7 := hbn.size
            clear hwn hbn K0_6 l0_6 z0_0_6 z0_1_6 K1_6 l1_6 z1_0_6 z1_1_6 K2_6 l2_6 z2_0_6 z2_1_6
            have l0_7 : w.heap.size < w7.heap.size := K0_7.out.lt
            have z0_0_7 : w7.cell? ⟨w.heap.size, 0, none⟩ = some (.int .i64 (0)) := K0_7.out.cell 0
            have z0_1_7 : w7.cell? ⟨w.heap.size, 1, none⟩ = some (.int .i64 (0)) := K0_7.out.cell 1
            have l1_7 : w2.heap.size < w7.heap.size := K1_7.out.lt
            have z1_0_7 : w7.cell? ⟨w2.heap.size, 0, none⟩ = some (.int .i64 (xa)) := K1_7.out.cell 0
            have z1_1_7 : w7.cell? ⟨w2.heap.size, 1, none⟩ = some (.int .i64 (ya)) := K1_7.out.cell 1
            have l2_7 : w4.heap.size < w7.heap.size := K2_7.out.lt
            have z2_0_7 : w7.cell? ⟨w4.heap.size, 0, none⟩ = some (.int .i64 (xb)) := K2_7.out.cell 0
            have z2_1_7 : w7.cell? ⟨w4.heap.size, 1, none⟩ = some (.int .i64 (yb)) := K2_7.out.cell 1
            have l3_7 : w6.heap.size < w7.heap.size := K3_7.out.lt
            have z3_0_7 : w7.cell? ⟨w6.heap.size, 0, none⟩ = some (.int .i64 (xd)) := K3_7.out.cell 0
            have z3_1_7 : w7.cell? ⟨w6.heap.size, 1, none⟩ = some (.int .i64 (yd)) := K3_7.out.cell 1
            have hs7 := HB7.out.size
            have d3 := (HB7.out.cell (p := ⟨zb, zo + i * 5 + 3, none⟩) hzw).trans HC3.out
            have d4 := (HB7.out.cell (p := ⟨zb, zo + i * 5 + 4, none⟩) hzw).trans HC4.out
            obtain ⟨S, hS⟩ : ∃ S, r'.al + r'.ar = S := ⟨_, rfl⟩
            have hS1 : 1 ≤ S ∧ S ≤ 20000 := by omega
            have eS : IntKind.i64.wrap (r'.al + r'.ar) = S := by rw [hS]; exact IntWalk.i64_in S ⟨by omega, by omega⟩
            have HPK := Lib.hid (part_ok a1 a2 a3 a4)
            have HS := Lib.hid hS
            obtain ⟨⟨pn, pd⟩, hpp⟩ : ∃ q, partF r'.al r'.ar = q := ⟨_, rfl⟩
            rw [hpp] at HPK
            have HPN := Lib.hid (show redN r'.al S = pn by rw [← hS]; exact congrArg Prod.fst hpp)
            have HPD := Lib.hid (show redD r'.al S = pd by rw [← hS]; exact congrArg Prod.snd hpp)
            have hz7 : zb < w7.heap.size := Nat.lt_of_lt_of_le hzw hs7
            have HPP2 := Lib.hid hpp
            clear hS hpp
            cases hm2 : mulF (xd, yd) (pn, pd) with
            | none =>
              have HM := Lib.hid hm2
              have HPQ := Lib.hid (show pvF l g (f + 1) name = none by rw [HPS.out]; unfold pstF; rw [HD.out]; simp only; rw [HPP2.out, HM.out])
              have HMUL := Lib.hid (fun w' => refMul_no (xd, yd) (pn, pd) HDK.out HPK.out HM.out w')
              clear hm2
              go_wp2
              refine Fx.regionG (MkD 35 (.int .i64 0) (.int .i64 0) 23) (fun x : Nat => .pointer (some ⟨x, 0, none⟩)) 22 (by kernel_rfl) (by kernel_rfl) (by kernel_rfl) ?_ ?_
              · intro f hf0
                exact MkD.start (below_drewN (Below.refl _ _) 1)
              repeat (first
                | (refine Fx.skipE_ (by rfl) (fun g f w h => h) ?_; simp only [Act.put, List.setIfInBounds_toArray, List.set_cons_zero, List.set_cons_succ])
                | (refine Fx.valE_ ?_ (by rfl) ?_ (fun g f w h => h) ?_
                   rotate_left
                   · intro g f w' hD hk
                     obtain ⟨hb, hg⟩ := id hD
                     have t0 := (hb.cell (p := ⟨zb, zo + i * 5 + 3, none⟩) hz7).trans d3
                     have t1 := (hb.cell (p := ⟨zb, zo + i * 5 + 4, none⟩) hz7).trans d4
                     have t2 : w'.cell? ⟨w6.heap.size, 0, none⟩ = some (.int .i64 xd) := (K3_7.out.below hb l3_7).cell 0
                     have t3 : w'.cell? ⟨w6.heap.size, 1, none⟩ = some (.int .i64 yd) := (K3_7.out.below hb l3_7).cell 1
                     clear hk hD hb hg
                     go_simp
                     try rfl
                   simp only [Act.put, List.setIfInBounds_toArray, List.set_cons_zero, List.set_cons_succ]))
              refine Fx.callvE_ (.agg #[.int .i64 pn, .int .i64 pd]) ?_ ?_ (by rfl) ?_ ?_ ?_
              rotate_left 2
              · intro w'
                go_simp
                refine ⟨?_, ?_⟩ <;> rfl
              · intro g f w' hD hk
                exact (lowest_red r'.al S pn pd HPN.out HPD.out _ (by omega) (by omega) (by omega) (by omega)).mono fun e w'' ⟨he, hw⟩ => ⟨he, hD.step hw (by decide)⟩
              simp only [Act.put, List.setIfInBounds_toArray, List.set_cons_zero, List.set_cons_succ]
              repeat (first
                | (refine Fx.skipE_ (by rfl) (fun g f w h => h) ?_; simp only [Act.put, List.setIfInBounds_toArray, List.set_cons_zero, List.set_cons_succ])
                | (refine Fx.valE_ ?_ (by rfl) ?_ (fun g f w h => h) ?_
                   rotate_left
                   · intro g f w' hD hk
                     obtain ⟨hb, hg⟩ := id hD
                     have t0 := (hb.cell (p := ⟨zb, zo + i * 5 + 3, none⟩) hz7).trans d3
                     have t1 := (hb.cell (p := ⟨zb, zo + i * 5 + 4, none⟩) hz7).trans d4
                     have t2 : w'.cell? ⟨w6.heap.size, 0, none⟩ = some (.int .i64 xd) := (K3_7.out.below hb l3_7).cell 0
                     have t3 : w'.cell? ⟨w6.heap.size, 1, none⟩ = some (.int .i64 yd) := (K3_7.out.below hb l3_7).cell 1
                     clear hk hD hb hg
                     go_simp
                     try rfl
                   simp only [Act.put, List.setIfInBounds_toArray, List.set_cons_zero, List.set_cons_succ]))
              refine Fx.callvE_ (.tuple #[.agg #[.int .i64 0, .int .i64 0], .int .i64 8]) ?_ ?_ (by rfl) ?_ ?_ ?_
              rotate_left 2
              · intro w'
                go_simp
                refine ⟨?_, ?_⟩ <;> rfl
              · intro g f w' hD hk
                exact (HMUL.out _).mono fun e w'' ⟨he, hw⟩ => ⟨he, hD.step hw (by decide)⟩
              simp only [Act.put, List.setIfInBounds_toArray, List.set_cons_zero, List.set_cons_succ]
              repeat (first
                | (refine Fx.skipE_ (by rfl) (fun g f w h => h) ?_; simp only [Act.put, List.setIfInBounds_toArray, List.set_cons_zero, List.set_cons_succ])
                | (refine Fx.valE_ ?_ (by rfl) ?_ (fun g f w h => h) ?_
                   rotate_left
                   · intro g f w' hD hk
                     obtain ⟨hb, hg⟩ := id hD
                     have t0 := (hb.cell (p := ⟨zb, zo + i * 5 + 3, none⟩) hz7).trans d3
                     have t1 := (hb.cell (p := ⟨zb, zo + i * 5 + 4, none⟩) hz7).trans d4
                     have t2 : w'.cell? ⟨w6.heap.size, 0, none⟩ = some (.int .i64 xd) := (K3_7.out.below hb l3_7).cell 0
                     have t3 : w'.cell? ⟨w6.heap.size, 1, none⟩ = some (.int .i64 yd) := (K3_7.out.below hb l3_7).cell 1
                     clear hk hD hb hg
                     go_simp
                     try rfl
                   simp only [Act.put, List.setIfInBounds_toArray, List.set_cons_zero, List.set_cons_succ]))
              refine Fx.makeE_ (by rfl) (by rfl) ?_ ?_
              · intro f w' hD hk
                refine ⟨w'.heap.size, w'.alloc (.cells #[.int .i64 0, .int .i64 0] 35), ?_, ?_⟩
                · clear hD hk
                  go_simp
                  try rfl
                · exact hD.make (hk.2.1 23 (by kernel_rfl)) (by decide)
              intro x
              simp only [Act.put, List.setIfInBounds_toArray, List.set_cons_zero, List.set_cons_succ]
              refine Fx.store_ (fun w' => (w'.setCell ⟨x, 0, none⟩ (.int .i64 0)).setCell ⟨x, 1, none⟩ (.int .i64 0)) (by rfl) ?_ ?_ ?_
              · intro f w' hD hk
                obtain ⟨hb, hg⟩ := id hD
                obtain ⟨e0, e1, r1, r2, r3, r4⟩ := MkD.cells hD
                clear hk hD
                go_simp
              · intro f w' hD hk
                obtain ⟨hb, hg⟩ := id hD
                obtain ⟨e0, e1, r1, r2, r3, r4⟩ := MkD.cells hD
                exact hD.store
              simp only [Act.put, List.setIfInBounds_toArray, List.set_cons_zero, List.set_cons_succ]
              repeat (first
                | (refine Fx.skip_ (by rfl) (fun f w h => h) ?_; simp only [Act.put, List.setIfInBounds_toArray, List.set_cons_zero, List.set_cons_succ])
                | (refine Fx.val_ ?_ (by rfl) ?_ (fun f w h => h) ?_
                   rotate_left
                   · intro f w' hD hk
                     obtain ⟨hb, hg⟩ := id hD
                     have t0 := (hb.cell (p := ⟨zb, zo + i * 5 + 3, none⟩) hz7).trans d3
                     have t1 := (hb.cell (p := ⟨zb, zo + i * 5 + 4, none⟩) hz7).trans d4
                     have t2 : w'.cell? ⟨w6.heap.size, 0, none⟩ = some (.int .i64 xd) := (K3_7.out.below hb l3_7).cell 0
                     have t3 : w'.cell? ⟨w6.heap.size, 1, none⟩ = some (.int .i64 yd) := (K3_7.out.below hb l3_7).cell 1
                     clear hk hD hb hg
                     go_simp
                     try rfl
                   simp only [Act.put, List.setIfInBounds_toArray, List.set_cons_zero, List.set_cons_succ]))
              refine Fx.nil_ ?_
              intro f w1 hall hD
              have hf23 := hall 23 (by simp)
              obtain ⟨hb, hg⟩ := hD
              simp only [hf23, if_true] at *
              obtain ⟨hx1', e0, e1, hx2, hx3⟩ := hg x rfl
              obtain ⟨rfl, rfl⟩ := hx3 (by first | rfl | trivial | assumption)
              obtain ⟨w8, hnm⟩ : ∃ z : World, z = w1 := ⟨_, rfl⟩
              subst hnm
              have HXB := Lib.hid hx2
              clear hg hx2 hx3 d3 d4
              have HB8 := Lib.hid (show Below w.heap.size w w8 from step_below hb (by repeat' (first | exact Below.refl _ _ | exact HB7.out | refine below_drewN ?_ _ | refine Below.drew ?_ | refine Below.alloc ?_ (by first | omega | (simp; done) | (simp; omega) | (simp [World.setCell]; omega)) _ | refine Below.setCell ?_ (by first | omega | (simp; done) | (simp; omega)) _ | assumption)))
              have K0_8 := Lib.hid (step_blk hb (show Blk _ (w.heap.size) 35 #[.int .i64 (0), .int .i64 (0)] by repeat' (first | exact K0_7.out | exact K1_7.out | exact K2_7.out | exact K3_7.out | exact Blk.at_ _ (by first | rfl | (simp; done) | (simp; omega)) _ _ | refine Blk.drewN ?_ _ | refine Blk.drew ?_ | refine Blk.alloc ?_ _ | refine Blk.far ?_ (by first | omega | (simp; done) | (simp; omega)) _ | assumption)))
              have K1_8 := Lib.hid (step_blk hb (show Blk _ (w2.heap.size) 35 #[.int .i64 (xa), .int .i64 (ya)] by repeat' (first | exact K0_7.out | exact K1_7.out | exact K2_7.out | exact K3_7.out | exact Blk.at_ _ (by first | rfl | (simp; done) | (simp; omega)) _ _ | refine Blk.drewN ?_ _ | refine Blk.drew ?_ | refine Blk.alloc ?_ _ | refine Blk.far ?_ (by first | omega | (simp; done) | (simp; omega)) _ | assumption)))
              have K2_8 := Lib.hid (step_blk hb (show Blk _ (w4.heap.size) 35 #[.int .i64 (xb), .int .i64 (yb)] by repeat' (first | exact K0_7.out | exact K1_7.out | exact K2_7.out | exact K3_7.out | exact Blk.at_ _ (by first | rfl | (simp; done) | (simp; omega)) _ _ | refine Blk.drewN ?_ _ | refine Blk.drew ?_ | refine Blk.alloc ?_ _ | refine Blk.far ?_ (by first | omega | (simp; done) | (simp; omega)) _ | assumption)))
              have K3_8 := Lib.hid (step_blk hb (show Blk _ (w6.heap.size) 35 #[.int .i64 (xd), .int .i64 (yd)] by repeat' (first | exact K0_7.out | exact K1_7.out | exact K2_7.out | exact K3_7.out | exact Blk.at_ _ (by first | rfl | (simp; done) | (simp; omega)) _ _ | refine Blk.drewN ?_ _ | refine Blk.drew ?_ | refine Blk.alloc ?_ _ | refine Blk.far ?_ (by first | omega | (simp; done) | (simp; omega)) _ | assumption)))
              have hz8 := hb.size
              try simp only [World.size_alloc, World.drewN, World.drew] at hz8
              clear hb K0_7 K1_7 K2_7 K3_7 z0_0_7 z0_1_7 l0_7 z1_0_7 z1_1_7 l1_7 z2_0_7 z2_1_7 l2_7 z3_0_7 z3_1_7 l3_7
              have l0_8 : w.heap.size < w8.heap.size := K0_8.out.lt
              have z0_0_8 : w8.cell? ⟨w.heap.size, 0, none⟩ = some (.int .i64 (0)) := K0_8.out.cell 0
              have z0_1_8 : w8.cell? ⟨w.heap.size, 1, none⟩ = some (.int .i64 (0)) := K0_8.out.cell 1
              have l1_8 : w2.heap.size < w8.heap.size := K1_8.out.lt
              have z1_0_8 : w8.cell? ⟨w2.heap.size, 0, none⟩ = some (.int .i64 (xa)) := K1_8.out.cell 0
              have z1_1_8 : w8.cell? ⟨w2.heap.size, 1, none⟩ = some (.int .i64 (ya)) := K1_8.out.cell 1
              have l2_8 : w4.heap.size < w8.heap.size := K2_8.out.lt
              have z2_0_8 : w8.cell? ⟨w4.heap.size, 0, none⟩ = some (.int .i64 (xb)) := K2_8.out.cell 0
              have z2_1_8 : w8.cell? ⟨w4.heap.size, 1, none⟩ = some (.int .i64 (yb)) := K2_8.out.cell 1
              have l3_8 : w6.heap.size < w8.heap.size := K3_8.out.lt
              have z3_0_8 : w8.cell? ⟨w6.heap.size, 0, none⟩ = some (.int .i64 (xd)) := K3_8.out.cell 0
              have z3_1_8 : w8.cell? ⟨w6.heap.size, 1, none⟩ = some (.int .i64 (yd)) := K3_8.out.cell 1
              have hxb := HXB.out
              have K4_8 := Lib.hid (show Blk w8 (x) 35 #[.int .i64 (0), .int .i64 (0)] from hxb)
              clear hxb
              have l4_8 : x < w8.heap.size := K4_8.out.lt
              have z4_0_8 : w8.cell? ⟨x, 0, none⟩ = some (.int .i64 (0)) := K4_8.out.cell 0
              have z4_1_8 : w8.cell? ⟨x, 1, none⟩ = some (.int .i64 (0)) := K4_8.out.cell 1
              have sc0 := (K0_8.out).cell 0
              have sf0 := (K0_8.out).frozen 0
              have sk0 : Blk (w8.setCell ⟨w.heap.size, 0, none⟩ (.int .i64 (0))) (w.heap.size) 35 #[.int .i64 (0), .int .i64 (0)] := by simpa using (K0_8.out).set_ 0 (.int .i64 (0))
              have sc1 := (sk0).cell 1
              have sf1 := (sk0).frozen 1
              have sk1 : Blk ((w8.setCell ⟨w.heap.size, 0, none⟩ (.int .i64 (0))).setCell ⟨w.heap.size, 1, none⟩ (.int .i64 (0))) (w.heap.size) 35 #[.int .i64 (0), .int .i64 (0)] := by simpa using (sk0).set_ 1 (.int .i64 (0))
              have sK := Lib.hid sk1
              have sd0 := sk1.cell 0
              have sd1 := sk1.cell 1
              clear sk0 sk1
              go_wp2
              exact bodyPost_ret (v := .tuple #[.agg #[.int .i64 0, .int .i64 0], .bool false]) (by simp [results, Try.results34, go_sem, sd0, sd1]) rfl ⟨by rw [HPQ.out]; rfl, by repeat' (first | exact Below.refl _ _ | exact HB8.out | refine below_drewN ?_ _ | refine Below.drew ?_ | refine Below.alloc ?_ (by first | omega | (simp; done) | (simp; omega) | (simp [World.setCell]; omega)) _ | refine Below.setCell ?_ (by first | omega | (simp; done) | (simp; omega)) _ | assumption)⟩
            | some q =>
              obtain ⟨x2, y2⟩ := q
              have HM := Lib.hid hm2
              have HMUL := Lib.hid (fun w' => refMul_ok (xd, yd) (pn, pd) HDK.out HPK.out (x2, y2) HM.out w')
              have HQK := Lib.hid (show FOk (x2, y2) from by
                obtain ⟨p1, p2, -, -⟩ := HDK.out.parts
                obtain ⟨q1, q2, -, -⟩ := HPK.out.parts
                exact opF_ok (den_in p1 p2 q1 q2).1 hm2)
              have HPT := Lib.hid (show pvF l g (f + 1) name = addF (xa, ya) (x2, y2) by rw [HPS.out]; unfold pstF; rw [HD.out]; simp only; rw [HPP2.out, HM.out])
              clear hm2
              go_wp2
              refine Fx.regionG (MkD 35 (.int .i64 x2) (.int .i64 y2) 23) (fun x : Nat => .pointer (some ⟨x, 0, none⟩)) 22 (by kernel_rfl) (by kernel_rfl) (by kernel_rfl) ?_ ?_
              · intro f hf0
                exact MkD.start (below_drewN (Below.refl _ _) 1)
              repeat (first
                | (refine Fx.skipE_ (by rfl) (fun g f w h => h) ?_; simp only [Act.put, List.setIfInBounds_toArray, List.set_cons_zero, List.set_cons_succ])
                | (refine Fx.valE_ ?_ (by rfl) ?_ (fun g f w h => h) ?_
                   rotate_left
                   · intro g f w' hD hk
                     obtain ⟨hb, hg⟩ := id hD
                     have t0 := (hb.cell (p := ⟨zb, zo + i * 5 + 3, none⟩) hz7).trans d3
                     have t1 := (hb.cell (p := ⟨zb, zo + i * 5 + 4, none⟩) hz7).trans d4
                     have t2 : w'.cell? ⟨w6.heap.size, 0, none⟩ = some (.int .i64 xd) := (K3_7.out.below hb l3_7).cell 0
                     have t3 : w'.cell? ⟨w6.heap.size, 1, none⟩ = some (.int .i64 yd) := (K3_7.out.below hb l3_7).cell 1
                     clear hk hD hb hg
                     go_simp
                     try rfl
                   simp only [Act.put, List.setIfInBounds_toArray, List.set_cons_zero, List.set_cons_succ]))
              refine Fx.callvE_ (.agg #[.int .i64 pn, .int .i64 pd]) ?_ ?_ (by rfl) ?_ ?_ ?_
              rotate_left 2
              · intro w'
                go_simp
                refine ⟨?_, ?_⟩ <;> rfl
              · intro g f w' hD hk
                exact (lowest_red r'.al S pn pd HPN.out HPD.out _ (by omega) (by omega) (by omega) (by omega)).mono fun e w'' ⟨he, hw⟩ => ⟨he, hD.step hw (by decide)⟩
              simp only [Act.put, List.setIfInBounds_toArray, List.set_cons_zero, List.set_cons_succ]
              repeat (first
                | (refine Fx.skipE_ (by rfl) (fun g f w h => h) ?_; simp only [Act.put, List.setIfInBounds_toArray, List.set_cons_zero, List.set_cons_succ])
                | (refine Fx.valE_ ?_ (by rfl) ?_ (fun g f w h => h) ?_
                   rotate_left
                   · intro g f w' hD hk
                     obtain ⟨hb, hg⟩ := id hD
                     have t0 := (hb.cell (p := ⟨zb, zo + i * 5 + 3, none⟩) hz7).trans d3
                     have t1 := (hb.cell (p := ⟨zb, zo + i * 5 + 4, none⟩) hz7).trans d4
                     have t2 : w'.cell? ⟨w6.heap.size, 0, none⟩ = some (.int .i64 xd) := (K3_7.out.below hb l3_7).cell 0
                     have t3 : w'.cell? ⟨w6.heap.size, 1, none⟩ = some (.int .i64 yd) := (K3_7.out.below hb l3_7).cell 1
                     clear hk hD hb hg
                     go_simp
                     try rfl
                   simp only [Act.put, List.setIfInBounds_toArray, List.set_cons_zero, List.set_cons_succ]))
              refine Fx.callvE_ (.tuple #[.agg #[.int .i64 x2, .int .i64 y2], .int .i64 0]) ?_ ?_ (by rfl) ?_ ?_ ?_
              rotate_left 2
              · intro w'
                go_simp
                refine ⟨?_, ?_⟩ <;> rfl
              · intro g f w' hD hk
                exact (HMUL.out _).mono fun e w'' ⟨he, hw⟩ => ⟨he, hD.step hw (by decide)⟩
              simp only [Act.put, List.setIfInBounds_toArray, List.set_cons_zero, List.set_cons_succ]
              repeat (first
                | (refine Fx.skipE_ (by rfl) (fun g f w h => h) ?_; simp only [Act.put, List.setIfInBounds_toArray, List.set_cons_zero, List.set_cons_succ])
                | (refine Fx.valE_ ?_ (by rfl) ?_ (fun g f w h => h) ?_
                   rotate_left
                   · intro g f w' hD hk
                     obtain ⟨hb, hg⟩ := id hD
                     have t0 := (hb.cell (p := ⟨zb, zo + i * 5 + 3, none⟩) hz7).trans d3
                     have t1 := (hb.cell (p := ⟨zb, zo + i * 5 + 4, none⟩) hz7).trans d4
                     have t2 : w'.cell? ⟨w6.heap.size, 0, none⟩ = some (.int .i64 xd) := (K3_7.out.below hb l3_7).cell 0
                     have t3 : w'.cell? ⟨w6.heap.size, 1, none⟩ = some (.int .i64 yd) := (K3_7.out.below hb l3_7).cell 1
                     clear hk hD hb hg
                     go_simp
                     try rfl
                   simp only [Act.put, List.setIfInBounds_toArray, List.set_cons_zero, List.set_cons_succ]))
              refine Fx.makeE_ (by rfl) (by rfl) ?_ ?_
              · intro f w' hD hk
                refine ⟨w'.heap.size, w'.alloc (.cells #[.int .i64 0, .int .i64 0] 35), ?_, ?_⟩
                · clear hD hk
                  go_simp
                  try rfl
                · exact hD.make (hk.2.1 23 (by kernel_rfl)) (by decide)
              intro x
              simp only [Act.put, List.setIfInBounds_toArray, List.set_cons_zero, List.set_cons_succ]
              refine Fx.store_ (fun w' => (w'.setCell ⟨x, 0, none⟩ (.int .i64 x2)).setCell ⟨x, 1, none⟩ (.int .i64 y2)) (by rfl) ?_ ?_ ?_
              · intro f w' hD hk
                obtain ⟨hb, hg⟩ := id hD
                obtain ⟨e0, e1, r1, r2, r3, r4⟩ := MkD.cells hD
                clear hk hD
                go_simp
              · intro f w' hD hk
                obtain ⟨hb, hg⟩ := id hD
                obtain ⟨e0, e1, r1, r2, r3, r4⟩ := MkD.cells hD
                exact hD.store
              simp only [Act.put, List.setIfInBounds_toArray, List.set_cons_zero, List.set_cons_succ]
              repeat (first
                | (refine Fx.skip_ (by rfl) (fun f w h => h) ?_; simp only [Act.put, List.setIfInBounds_toArray, List.set_cons_zero, List.set_cons_succ])
                | (refine Fx.val_ ?_ (by rfl) ?_ (fun f w h => h) ?_
                   rotate_left
                   · intro f w' hD hk
                     obtain ⟨hb, hg⟩ := id hD
                     have t0 := (hb.cell (p := ⟨zb, zo + i * 5 + 3, none⟩) hz7).trans d3
                     have t1 := (hb.cell (p := ⟨zb, zo + i * 5 + 4, none⟩) hz7).trans d4
                     have t2 : w'.cell? ⟨w6.heap.size, 0, none⟩ = some (.int .i64 xd) := (K3_7.out.below hb l3_7).cell 0
                     have t3 : w'.cell? ⟨w6.heap.size, 1, none⟩ = some (.int .i64 yd) := (K3_7.out.below hb l3_7).cell 1
                     clear hk hD hb hg
                     go_simp
                     try rfl
                   simp only [Act.put, List.setIfInBounds_toArray, List.set_cons_zero, List.set_cons_succ]))
              refine Fx.nil_ ?_
              intro f w1 hall hD
              have hf23 := hall 23 (by simp)
              obtain ⟨hb, hg⟩ := hD
              simp only [hf23, if_true] at *
              obtain ⟨hx1', e0, e1, hx2, hx3⟩ := hg x rfl
              obtain ⟨rfl, rfl⟩ := hx3 (by first | rfl | trivial | assumption)
              obtain ⟨w8, hnm⟩ : ∃ z : World, z = w1 := ⟨_, rfl⟩
              subst hnm
              have HXB := Lib.hid hx2
              clear hg hx2 hx3 d3 d4
              have HB8 := Lib.hid (show Below w.heap.size w w8 from step_below hb (by repeat' (first | exact Below.refl _ _ | exact HB7.out | refine below_drewN ?_ _ | refine Below.drew ?_ | refine Below.alloc ?_ (by first | omega | (simp; done) | (simp; omega) | (simp [World.setCell]; omega)) _ | refine Below.setCell ?_ (by first | omega | (simp; done) | (simp; omega)) _ | assumption)))
              have K0_8 := Lib.hid (step_blk hb (show Blk _ (w.heap.size) 35 #[.int .i64 (0), .int .i64 (0)] by repeat' (first | exact K0_7.out | exact K1_7.out | exact K2_7.out | exact K3_7.out | exact Blk.at_ _ (by first | rfl | (simp; done) | (simp; omega)) _ _ | refine Blk.drewN ?_ _ | refine Blk.drew ?_ | refine Blk.alloc ?_ _ | refine Blk.far ?_ (by first | omega | (simp; done) | (simp; omega)) _ | assumption)))
              have K1_8 := Lib.hid (step_blk hb (show Blk _ (w2.heap.size) 35 #[.int .i64 (xa), .int .i64 (ya)] by repeat' (first | exact K0_7.out | exact K1_7.out | exact K2_7.out | exact K3_7.out | exact Blk.at_ _ (by first | rfl | (simp; done) | (simp; omega)) _ _ | refine Blk.drewN ?_ _ | refine Blk.drew ?_ | refine Blk.alloc ?_ _ | refine Blk.far ?_ (by first | omega | (simp; done) | (simp; omega)) _ | assumption)))
              have K2_8 := Lib.hid (step_blk hb (show Blk _ (w4.heap.size) 35 #[.int .i64 (xb), .int .i64 (yb)] by repeat' (first | exact K0_7.out | exact K1_7.out | exact K2_7.out | exact K3_7.out | exact Blk.at_ _ (by first | rfl | (simp; done) | (simp; omega)) _ _ | refine Blk.drewN ?_ _ | refine Blk.drew ?_ | refine Blk.alloc ?_ _ | refine Blk.far ?_ (by first | omega | (simp; done) | (simp; omega)) _ | assumption)))
              have K3_8 := Lib.hid (step_blk hb (show Blk _ (w6.heap.size) 35 #[.int .i64 (xd), .int .i64 (yd)] by repeat' (first | exact K0_7.out | exact K1_7.out | exact K2_7.out | exact K3_7.out | exact Blk.at_ _ (by first | rfl | (simp; done) | (simp; omega)) _ _ | refine Blk.drewN ?_ _ | refine Blk.drew ?_ | refine Blk.alloc ?_ _ | refine Blk.far ?_ (by first | omega | (simp; done) | (simp; omega)) _ | assumption)))
              have hz8 := hb.size
              try simp only [World.size_alloc, World.drewN, World.drew] at hz8
              clear hb K0_7 K1_7 K2_7 K3_7 z0_0_7 z0_1_7 l0_7 z1_0_7 z1_1_7 l1_7 z2_0_7 z2_1_7 l2_7 z3_0_7 z3_1_7 l3_7
              have l0_8 : w.heap.size < w8.heap.size := K0_8.out.lt
              have z0_0_8 : w8.cell? ⟨w.heap.size, 0, none⟩ = some (.int .i64 (0)) := K0_8.out.cell 0
              have z0_1_8 : w8.cell? ⟨w.heap.size, 1, none⟩ = some (.int .i64 (0)) := K0_8.out.cell 1
              have l1_8 : w2.heap.size < w8.heap.size := K1_8.out.lt
              have z1_0_8 : w8.cell? ⟨w2.heap.size, 0, none⟩ = some (.int .i64 (xa)) := K1_8.out.cell 0
              have z1_1_8 : w8.cell? ⟨w2.heap.size, 1, none⟩ = some (.int .i64 (ya)) := K1_8.out.cell 1
              have l2_8 : w4.heap.size < w8.heap.size := K2_8.out.lt
              have z2_0_8 : w8.cell? ⟨w4.heap.size, 0, none⟩ = some (.int .i64 (xb)) := K2_8.out.cell 0
              have z2_1_8 : w8.cell? ⟨w4.heap.size, 1, none⟩ = some (.int .i64 (yb)) := K2_8.out.cell 1
              have l3_8 : w6.heap.size < w8.heap.size := K3_8.out.lt
              have z3_0_8 : w8.cell? ⟨w6.heap.size, 0, none⟩ = some (.int .i64 (xd)) := K3_8.out.cell 0
              have z3_1_8 : w8.cell? ⟨w6.heap.size, 1, none⟩ = some (.int .i64 (yd)) := K3_8.out.cell 1
              have hxb := HXB.out
              have K4_8 := Lib.hid (show Blk w8 (x) 35 #[.int .i64 (x2), .int .i64 (y2)] from hxb)
              clear hxb
              have l4_8 : x < w8.heap.size := K4_8.out.lt
              have z4_0_8 : w8.cell? ⟨x, 0, none⟩ = some (.int .i64 (x2)) := K4_8.out.cell 0
              have z4_1_8 : w8.cell? ⟨x, 1, none⟩ = some (.int .i64 (y2)) := K4_8.out.cell 1
              cases ho3 : addF (xa, ya) (x2, y2) with
              | none =>
                have HO := Lib.hid ho3
                have HPQ := Lib.hid (HPT.out.trans ho3)
                clear ho3
                go_wp2_with fail
                refine (refAdd_no (xa, ya) (x2, y2) HA.out HQK.out HO.out _).mono ?_
                rintro e w9 ⟨rfl, hb⟩
                have HB9 := Lib.hid (show Below w.heap.size w w9 from step_below hb (by repeat' (first | exact Below.refl _ _ | exact HB8.out | refine below_drewN ?_ _ | refine Below.drew ?_ | refine Below.alloc ?_ (by first | omega | (simp; done) | (simp; omega) | (simp [World.setCell]; omega)) _ | refine Below.setCell ?_ (by first | omega | (simp; done) | (simp; omega)) _ | assumption)))
                have K0_9 := Lib.hid (step_blk hb (show Blk _ (w.heap.size) 35 #[.int .i64 (0), .int .i64 (0)] by repeat' (first | exact K0_8.out | exact K1_8.out | exact K2_8.out | exact K3_8.out | exact K4_8.out | exact Blk.at_ _ (by first | rfl | (simp; done) | (simp; omega)) _ _ | refine Blk.drewN ?_ _ | refine Blk.drew ?_ | refine Blk.alloc ?_ _ | refine Blk.far ?_ (by first | omega | (simp; done) | (simp; omega)) _ | assumption)))
                have K1_9 := Lib.hid (step_blk hb (show Blk _ (w2.heap.size) 35 #[.int .i64 (xa), .int .i64 (ya)] by repeat' (first | exact K0_8.out | exact K1_8.out | exact K2_8.out | exact K3_8.out | exact K4_8.out | exact Blk.at_ _ (by first | rfl | (simp; done) | (simp; omega)) _ _ | refine Blk.drewN ?_ _ | refine Blk.drew ?_ | refine Blk.alloc ?_ _ | refine Blk.far ?_ (by first | omega | (simp; done) | (simp; omega)) _ | assumption)))
                have K2_9 := Lib.hid (step_blk hb (show Blk _ (w4.heap.size) 35 #[.int .i64 (xb), .int .i64 (yb)] by repeat' (first | exact K0_8.out | exact K1_8.out | exact K2_8.out | exact K3_8.out | exact K4_8.out | exact Blk.at_ _ (by first | rfl | (simp; done) | (simp; omega)) _ _ | refine Blk.drewN ?_ _ | refine Blk.drew ?_ | refine Blk.alloc ?_ _ | refine Blk.far ?_ (by first | omega | (simp; done) | (simp; omega)) _ | assumption)))
                have K3_9 := Lib.hid (step_blk hb (show Blk _ (w6.heap.size) 35 #[.int .i64 (xd), .int .i64 (yd)] by repeat' (first | exact K0_8.out | exact K1_8.out | exact K2_8.out | exact K3_8.out | exact K4_8.out | exact Blk.at_ _ (by first | rfl | (simp; done) | (simp; omega)) _ _ | refine Blk.drewN ?_ _ | refine Blk.drew ?_ | refine Blk.alloc ?_ _ | refine Blk.far ?_ (by first | omega | (simp; done) | (simp; omega)) _ | assumption)))
                have K4_9 := Lib.hid (step_blk hb (show Blk _ (x) 35 #[.int .i64 (x2), .int .i64 (y2)] by repeat' (first | exact K0_8.out | exact K1_8.out | exact K2_8.out | exact K3_8.out | exact K4_8.out | exact Blk.at_ _ (by first | rfl | (simp; done) | (simp; omega)) _ _ | refine Blk.drewN ?_ _ | refine Blk.drew ?_ | refine Blk.alloc ?_ _ | refine Blk.far ?_ (by first | omega | (simp; done) | (simp; omega)) _ | assumption)))
                have hz9 := hb.size
                try simp only [World.size_alloc, World.drewN, World.drew] at hz9
                clear hb K0_8 K1_8 K2_8 K3_8 K4_8 z0_0_8 z0_1_8 l0_8 z1_0_8 z1_1_8 l1_8 z2_0_8 z2_1_8 l2_8 z3_0_8 z3_1_8 l3_8 z4_0_8 z4_1_8 l4_8
                have l0_9 : w.heap.size < w9.heap.size := K0_9.out.lt
                have z0_0_9 : w9.cell? ⟨w.heap.size, 0, none⟩ = some (.int .i64 (0)) := K0_9.out.cell 0
                have z0_1_9 : w9.cell? ⟨w.heap.size, 1, none⟩ = some (.int .i64 (0)) := K0_9.out.cell 1
                have l1_9 : w2.heap.size < w9.heap.size := K1_9.out.lt
                have z1_0_9 : w9.cell? ⟨w2.heap.size, 0, none⟩ = some (.int .i64 (xa)) := K1_9.out.cell 0
                have z1_1_9 : w9.cell? ⟨w2.heap.size, 1, none⟩ = some (.int .i64 (ya)) := K1_9.out.cell 1
                have l2_9 : w4.heap.size < w9.heap.size := K2_9.out.lt
                have z2_0_9 : w9.cell? ⟨w4.heap.size, 0, none⟩ = some (.int .i64 (xb)) := K2_9.out.cell 0
                have z2_1_9 : w9.cell? ⟨w4.heap.size, 1, none⟩ = some (.int .i64 (yb)) := K2_9.out.cell 1
                have l3_9 : w6.heap.size < w9.heap.size := K3_9.out.lt
                have z3_0_9 : w9.cell? ⟨w6.heap.size, 0, none⟩ = some (.int .i64 (xd)) := K3_9.out.cell 0
                have z3_1_9 : w9.cell? ⟨w6.heap.size, 1, none⟩ = some (.int .i64 (yd)) := K3_9.out.cell 1
                have l4_9 : x < w9.heap.size := K4_9.out.lt
                have z4_0_9 : w9.cell? ⟨x, 0, none⟩ = some (.int .i64 (x2)) := K4_9.out.cell 0
                have z4_1_9 : w9.cell? ⟨x, 1, none⟩ = some (.int .i64 (y2)) := K4_9.out.cell 1
                go_upto_region 15 with fail
                generalize hwn : (w9.alloc (.cells #[.int .i64 (0), .int .i64 (0)] 35)) = w10
                have hbn : Below w9.heap.size w9 w10 := by rw [← hwn]; repeat' (first | exact Below.refl _ _ | refine below_drewN ?_ _ | refine Below.drew ?_ | refine Below.alloc ?_ (by first | omega | (simp; done) | (simp; omega) | (simp [World.setCell]; omega)) _ | refine Below.setCell ?_ (by first | omega | (simp; done) | (simp; omega)) _)
                have HB10 := Lib.hid (show Below w.heap.size w w10 from HB9.out.trans (hbn.mono HB9.out.size))
                have K0_10 := Lib.hid (step_blk hbn K0_9.out)
                have K1_10 := Lib.hid (step_blk hbn K1_9.out)
                have K2_10 := Lib.hid (step_blk hbn K2_9.out)
                have K3_10 := Lib.hid (step_blk hbn K3_9.out)
                have K4_10 := Lib.hid (step_blk hbn K4_9.out)
                have K5_10 := Lib.hid (show Blk w10 (w9.heap.size) 35 #[.int .i64 (0), .int .i64 (0)] by rw [← hwn]; repeat' (first | exact Blk.at_ _ (by first | rfl | (simp; done) | (simp; omega)) _ _ | refine Blk.drewN ?_ _ | refine Blk.drew ?_ | refine Blk.alloc ?_ _ | refine Blk.far ?_ (by first | omega | (simp; done) | (simp; omega)) _ | assumption))
                have HN10 := Lib.hid hbn
                have hz10 := hbn.size
                clear hwn hbn K0_9 l0_9 z0_0_9 z0_1_9 K1_9 l1_9 z1_0_9 z1_1_9 K2_9 l2_9 z2_0_9 z2_1_9 K3_9 l3_9 z3_0_9 z3_1_9 K4_9 l4_9 z4_0_9 z4_1_9
                have l0_10 : w.heap.size < w10.heap.size := K0_10.out.lt
                have z0_0_10 : w10.cell? ⟨w.heap.size, 0, none⟩ = some (.int .i64 (0)) := K0_10.out.cell 0
                have z0_1_10 : w10.cell? ⟨w.heap.size, 1, none⟩ = some (.int .i64 (0)) := K0_10.out.cell 1
                have l1_10 : w2.heap.size < w10.heap.size := K1_10.out.lt
                have z1_0_10 : w10.cell? ⟨w2.heap.size, 0, none⟩ = some (.int .i64 (xa)) := K1_10.out.cell 0
                have z1_1_10 : w10.cell? ⟨w2.heap.size, 1, none⟩ = some (.int .i64 (ya)) := K1_10.out.cell 1
                have l2_10 : w4.heap.size < w10.heap.size := K2_10.out.lt
                have z2_0_10 : w10.cell? ⟨w4.heap.size, 0, none⟩ = some (.int .i64 (xb)) := K2_10.out.cell 0
                have z2_1_10 : w10.cell? ⟨w4.heap.size, 1, none⟩ = some (.int .i64 (yb)) := K2_10.out.cell 1
                have l3_10 : w6.heap.size < w10.heap.size := K3_10.out.lt
                have z3_0_10 : w10.cell? ⟨w6.heap.size, 0, none⟩ = some (.int .i64 (xd)) := K3_10.out.cell 0
                have z3_1_10 : w10.cell? ⟨w6.heap.size, 1, none⟩ = some (.int .i64 (yd)) := K3_10.out.cell 1
                have l4_10 : x < w10.heap.size := K4_10.out.lt
                have z4_0_10 : w10.cell? ⟨x, 0, none⟩ = some (.int .i64 (x2)) := K4_10.out.cell 0
                have z4_1_10 : w10.cell? ⟨x, 1, none⟩ = some (.int .i64 (y2)) := K4_10.out.cell 1
                have l5_10 : w9.heap.size < w10.heap.size := K5_10.out.lt
                have z5_0_10 : w10.cell? ⟨w9.heap.size, 0, none⟩ = some (.int .i64 (0)) := K5_10.out.cell 0
                have z5_1_10 : w10.cell? ⟨w9.heap.size, 1, none⟩ = some (.int .i64 (0)) := K5_10.out.cell 1
                have sc0 := (K0_10.out).cell 0
                have sf0 := (K0_10.out).frozen 0
                have sk0 : Blk (w10.setCell ⟨w.heap.size, 0, none⟩ (.int .i64 (0))) (w.heap.size) 35 #[.int .i64 (0), .int .i64 (0)] := by simpa using (K0_10.out).set_ 0 (.int .i64 (0))
                have sc1 := (sk0).cell 1
                have sf1 := (sk0).frozen 1
                have sk1 : Blk ((w10.setCell ⟨w.heap.size, 0, none⟩ (.int .i64 (0))).setCell ⟨w.heap.size, 1, none⟩ (.int .i64 (0))) (w.heap.size) 35 #[.int .i64 (0), .int .i64 (0)] := by simpa using (sk0).set_ 1 (.int .i64 (0))
                have sK := Lib.hid sk1
                have sd0 := sk1.cell 0
                have sd1 := sk1.cell 1
                clear sk0 sk1
                go_wp2
                exact bodyPost_ret (v := .tuple #[.agg #[.int .i64 0, .int .i64 0], .bool false]) (by simp [results, Try.results34, go_sem, sd0, sd1]) rfl ⟨by rw [HPQ.out]; rfl, by repeat' (first | exact Below.refl _ _ | exact HB10.out | refine below_drewN ?_ _ | refine Below.drew ?_ | refine Below.alloc ?_ (by first | omega | (simp; done) | (simp; omega) | (simp [World.setCell]; omega)) _ | refine Below.setCell ?_ (by first | omega | (simp; done) | (simp; omega)) _ | assumption)⟩
              | some q =>
                obtain ⟨x3, y3⟩ := q
                have HO := Lib.hid ho3
                have HPQ := Lib.hid (HPT.out.trans ho3)
                clear ho3
                go_wp2_with fail
                refine (refAdd_ok (xa, ya) (x2, y2) HA.out HQK.out (x3, y3) HO.out _).mono ?_
                rintro e w9 ⟨rfl, hb⟩
                have HB9 := Lib.hid (show Below w.heap.size w w9 from step_below hb (by repeat' (first | exact Below.refl _ _ | exact HB8.out | refine below_drewN ?_ _ | refine Below.drew ?_ | refine Below.alloc ?_ (by first | omega | (simp; done) | (simp; omega) | (simp [World.setCell]; omega)) _ | refine Below.setCell ?_ (by first | omega | (simp; done) | (simp; omega)) _ | assumption)))
                have K0_9 := Lib.hid (step_blk hb (show Blk _ (w.heap.size) 35 #[.int .i64 (0), .int .i64 (0)] by repeat' (first | exact K0_8.out | exact K1_8.out | exact K2_8.out | exact K3_8.out | exact K4_8.out | exact Blk.at_ _ (by first | rfl | (simp; done) | (simp; omega)) _ _ | refine Blk.drewN ?_ _ | refine Blk.drew ?_ | refine Blk.alloc ?_ _ | refine Blk.far ?_ (by first | omega | (simp; done) | (simp; omega)) _ | assumption)))
                have K1_9 := Lib.hid (step_blk hb (show Blk _ (w2.heap.size) 35 #[.int .i64 (xa), .int .i64 (ya)] by repeat' (first | exact K0_8.out | exact K1_8.out | exact K2_8.out | exact K3_8.out | exact K4_8.out | exact Blk.at_ _ (by first | rfl | (simp; done) | (simp; omega)) _ _ | refine Blk.drewN ?_ _ | refine Blk.drew ?_ | refine Blk.alloc ?_ _ | refine Blk.far ?_ (by first | omega | (simp; done) | (simp; omega)) _ | assumption)))
                have K2_9 := Lib.hid (step_blk hb (show Blk _ (w4.heap.size) 35 #[.int .i64 (xb), .int .i64 (yb)] by repeat' (first | exact K0_8.out | exact K1_8.out | exact K2_8.out | exact K3_8.out | exact K4_8.out | exact Blk.at_ _ (by first | rfl | (simp; done) | (simp; omega)) _ _ | refine Blk.drewN ?_ _ | refine Blk.drew ?_ | refine Blk.alloc ?_ _ | refine Blk.far ?_ (by first | omega | (simp; done) | (simp; omega)) _ | assumption)))
                have K3_9 := Lib.hid (step_blk hb (show Blk _ (w6.heap.size) 35 #[.int .i64 (xd), .int .i64 (yd)] by repeat' (first | exact K0_8.out | exact K1_8.out | exact K2_8.out | exact K3_8.out | exact K4_8.out | exact Blk.at_ _ (by first | rfl | (simp; done) | (simp; omega)) _ _ | refine Blk.drewN ?_ _ | refine Blk.drew ?_ | refine Blk.alloc ?_ _ | refine Blk.far ?_ (by first | omega | (simp; done) | (simp; omega)) _ | assumption)))
                have K4_9 := Lib.hid (step_blk hb (show Blk _ (x) 35 #[.int .i64 (x2), .int .i64 (y2)] by repeat' (first | exact K0_8.out | exact K1_8.out | exact K2_8.out | exact K3_8.out | exact K4_8.out | exact Blk.at_ _ (by first | rfl | (simp; done) | (simp; omega)) _ _ | refine Blk.drewN ?_ _ | refine Blk.drew ?_ | refine Blk.alloc ?_ _ | refine Blk.far ?_ (by first | omega | (simp; done) | (simp; omega)) _ | assumption)))
                have hz9 := hb.size
                try simp only [World.size_alloc, World.drewN, World.drew] at hz9
                clear hb K0_8 K1_8 K2_8 K3_8 K4_8 z0_0_8 z0_1_8 l0_8 z1_0_8 z1_1_8 l1_8 z2_0_8 z2_1_8 l2_8 z3_0_8 z3_1_8 l3_8 z4_0_8 z4_1_8 l4_8
                have l0_9 : w.heap.size < w9.heap.size := K0_9.out.lt
                have z0_0_9 : w9.cell? ⟨w.heap.size, 0, none⟩ = some (.int .i64 (0)) := K0_9.out.cell 0
                have z0_1_9 : w9.cell? ⟨w.heap.size, 1, none⟩ = some (.int .i64 (0)) := K0_9.out.cell 1
                have l1_9 : w2.heap.size < w9.heap.size := K1_9.out.lt
                have z1_0_9 : w9.cell? ⟨w2.heap.size, 0, none⟩ = some (.int .i64 (xa)) := K1_9.out.cell 0
                have z1_1_9 : w9.cell? ⟨w2.heap.size, 1, none⟩ = some (.int .i64 (ya)) := K1_9.out.cell 1
                have l2_9 : w4.heap.size < w9.heap.size := K2_9.out.lt
                have z2_0_9 : w9.cell? ⟨w4.heap.size, 0, none⟩ = some (.int .i64 (xb)) := K2_9.out.cell 0
                have z2_1_9 : w9.cell? ⟨w4.heap.size, 1, none⟩ = some (.int .i64 (yb)) := K2_9.out.cell 1
                have l3_9 : w6.heap.size < w9.heap.size := K3_9.out.lt
                have z3_0_9 : w9.cell? ⟨w6.heap.size, 0, none⟩ = some (.int .i64 (xd)) := K3_9.out.cell 0
                have z3_1_9 : w9.cell? ⟨w6.heap.size, 1, none⟩ = some (.int .i64 (yd)) := K3_9.out.cell 1
                have l4_9 : x < w9.heap.size := K4_9.out.lt
                have z4_0_9 : w9.cell? ⟨x, 0, none⟩ = some (.int .i64 (x2)) := K4_9.out.cell 0
                have z4_1_9 : w9.cell? ⟨x, 1, none⟩ = some (.int .i64 (y2)) := K4_9.out.cell 1
                go_upto_region 15 with fail
                generalize hwn : (w9.alloc (.cells #[.int .i64 (x3), .int .i64 (y3)] 35)) = w10
                have hbn : Below w9.heap.size w9 w10 := by rw [← hwn]; repeat' (first | exact Below.refl _ _ | refine below_drewN ?_ _ | refine Below.drew ?_ | refine Below.alloc ?_ (by first | omega | (simp; done) | (simp; omega) | (simp [World.setCell]; omega)) _ | refine Below.setCell ?_ (by first | omega | (simp; done) | (simp; omega)) _)
                have HB10 := Lib.hid (show Below w.heap.size w w10 from HB9.out.trans (hbn.mono HB9.out.size))
                have K0_10 := Lib.hid (step_blk hbn K0_9.out)
                have K1_10 := Lib.hid (step_blk hbn K1_9.out)
                have K2_10 := Lib.hid (step_blk hbn K2_9.out)
                have K3_10 := Lib.hid (step_blk hbn K3_9.out)
                have K4_10 := Lib.hid (step_blk hbn K4_9.out)
                have K5_10 := Lib.hid (show Blk w10 (w9.heap.size) 35 #[.int .i64 (x3), .int .i64 (y3)] by rw [← hwn]; repeat' (first | exact Blk.at_ _ (by first | rfl | (simp; done) | (simp; omega)) _ _ | refine Blk.drewN ?_ _ | refine Blk.drew ?_ | refine Blk.alloc ?_ _ | refine Blk.far ?_ (by first | omega | (simp; done) | (simp; omega)) _ | assumption))
                have HN10 := Lib.hid hbn
                have hz10 := hbn.size
                clear hwn hbn K0_9 l0_9 z0_0_9 z0_1_9 K1_9 l1_9 z1_0_9 z1_1_9 K2_9 l2_9 z2_0_9 z2_1_9 K3_9 l3_9 z3_0_9 z3_1_9 K4_9 l4_9 z4_0_9 z4_1_9
                have l0_10 : w.heap.size < w10.heap.size := K0_10.out.lt
                have z0_0_10 : w10.cell? ⟨w.heap.size, 0, none⟩ = some (.int .i64 (0)) := K0_10.out.cell 0
                have z0_1_10 : w10.cell? ⟨w.heap.size, 1, none⟩ = some (.int .i64 (0)) := K0_10.out.cell 1
                have l1_10 : w2.heap.size < w10.heap.size := K1_10.out.lt
                have z1_0_10 : w10.cell? ⟨w2.heap.size, 0, none⟩ = some (.int .i64 (xa)) := K1_10.out.cell 0
                have z1_1_10 : w10.cell? ⟨w2.heap.size, 1, none⟩ = some (.int .i64 (ya)) := K1_10.out.cell 1
                have l2_10 : w4.heap.size < w10.heap.size := K2_10.out.lt
                have z2_0_10 : w10.cell? ⟨w4.heap.size, 0, none⟩ = some (.int .i64 (xb)) := K2_10.out.cell 0
                have z2_1_10 : w10.cell? ⟨w4.heap.size, 1, none⟩ = some (.int .i64 (yb)) := K2_10.out.cell 1
                have l3_10 : w6.heap.size < w10.heap.size := K3_10.out.lt
                have z3_0_10 : w10.cell? ⟨w6.heap.size, 0, none⟩ = some (.int .i64 (xd)) := K3_10.out.cell 0
                have z3_1_10 : w10.cell? ⟨w6.heap.size, 1, none⟩ = some (.int .i64 (yd)) := K3_10.out.cell 1
                have l4_10 : x < w10.heap.size := K4_10.out.lt
                have z4_0_10 : w10.cell? ⟨x, 0, none⟩ = some (.int .i64 (x2)) := K4_10.out.cell 0
                have z4_1_10 : w10.cell? ⟨x, 1, none⟩ = some (.int .i64 (y2)) := K4_10.out.cell 1
                have l5_10 : w9.heap.size < w10.heap.size := K5_10.out.lt
                have z5_0_10 : w10.cell? ⟨w9.heap.size, 0, none⟩ = some (.int .i64 (x3)) := K5_10.out.cell 0
                have z5_1_10 : w10.cell? ⟨w9.heap.size, 1, none⟩ = some (.int .i64 (y3)) := K5_10.out.cell 1
                have sc0 := (K0_10.out).cell 0
                have sf0 := (K0_10.out).frozen 0
                have sk0 : Blk (w10.setCell ⟨w.heap.size, 0, none⟩ (.int .i64 (x3))) (w.heap.size) 35 #[.int .i64 (x3), .int .i64 (0)] := by simpa using (K0_10.out).set_ 0 (.int .i64 (x3))
                have sc1 := (sk0).cell 1
                have sf1 := (sk0).frozen 1
                have sk1 : Blk ((w10.setCell ⟨w.heap.size, 0, none⟩ (.int .i64 (x3))).setCell ⟨w.heap.size, 1, none⟩ (.int .i64 (y3))) (w.heap.size) 35 #[.int .i64 (x3), .int .i64 (y3)] := by simpa using (sk0).set_ 1 (.int .i64 (y3))
                have sK := Lib.hid sk1
                have sd0 := sk1.cell 0
                have sd1 := sk1.cell 1
                clear sk0 sk1
                go_wp2
                exact bodyPost_ret (v := .tuple #[.agg #[.int .i64 x3, .int .i64 y3], .bool true]) (by simp [results, Try.results34, go_sem, sd0, sd1]) rfl ⟨by rw [HPQ.out]; rfl, by repeat' (first | exact Below.refl _ _ | exact HB10.out | refine below_drewN ?_ _ | refine Below.drew ?_ | refine Below.alloc ?_ (by first | omega | (simp; done) | (simp; omega) | (simp [World.setCell]; omega)) _ | refine Below.setCell ?_ (by first | omega | (simp; done) | (simp; omega)) _ | assumption)⟩
end Go.Proofs.Ytfigbdhfmlhjdaa

end
