import Derived.Test.YtfigbdhfmlhjdaaQ19
import Derived.Deep.Cut

section
/- The walk of place at a rocker whose place is not known. -/
namespace Go.Proofs.Ytfigbdhfmlhjdaa
open Go Go.RowKit Go.Maps

set_option maxRecDepth 100000 in
set_option maxHeartbeats 8000000 in
theorem place_step (l : List Rk) (hfits : ∀ r ∈ l, r.Fits) (h0 : openErr l = 0) (g0 g1 : ByteArray → Int) (hg0 : ∀ s, -1000000 ≤ g0 s ∧ g0 s ≤ 1000000) (hg1 : ∀ s, -1000000 ≤ g1 s ∧ g1 s ≤ 1000000) (A : Option Addr) (n c tb mb : Nat) (top : Int) (n₀ gm gp : Nat)
    (name : ByteArray) (hnm : name.size ≤ maxLen) (i : Nat) (r : Rk) (hi : idxOf l name = some i) (hr : l[i]? = some r) (ml mr : Nat) (pl pr : List ByteArray) (hL : PlaceOk l g0 g1 A n c tb mb top n₀ gm gp r.left ml pl) (hR : PlaceOk l g0 g1 A n c tb mb top n₀ gm gp r.right mr pr)
    (K : ByteArray → Bool) (cnt : Nat) (lg : Bool) (w : World) (h : PivAt l g0 g1 A n c tb mb top n₀ gm gp K cnt lg w) (hG : Good l g0 g1 K lg) (hpl : ∀ x ∈ pl, K x = true) (hpr : ∀ x ∈ pr, K x = true) (hK : K name = false) (hc : cnt + (ml + mr) ≤ 1000000000000000) :
    Calls Try.prog 29 #[.pointer (some ⟨gp, 0, none⟩), .string name] w (PlacePost l g0 g1 A n c tb mb top n₀ gm gp name (ml + mr) K cnt w) := by
  have hfit := hfits r (List.mem_of_getElem? hr)
  have harms := arms_of h0
  obtain ⟨al1, al2, ar1, ar2⟩ := harms r (List.mem_of_getElem? hr)
  obtain ⟨⟨la0, lb0⟩, hl0⟩ : ∃ p, plV l g0 r.left = p := ⟨_, rfl⟩
  obtain ⟨⟨la1, lb1⟩, hl1⟩ : ∃ p, plV l g1 r.left = p := ⟨_, rfl⟩
  obtain ⟨⟨ra0, rb0⟩, hr0⟩ : ∃ p, plV l g0 r.right = p := ⟨_, rfl⟩
  obtain ⟨⟨ra1, rb1⟩, hr1⟩ : ∃ p, plV l g1 r.right = p := ⟨_, rfl⟩
  have fl0 : FOk (la0, lb0) := hl0 ▸ plD_ok harms hg0 _ _
  have fl1 : FOk (la1, lb1) := hl1 ▸ plD_ok harms hg1 _ _
  have fr0 : FOk (ra0, rb0) := hr0 ▸ plD_ok harms hg0 _ _
  have fr1 : FOk (ra1, rb1) := hr1 ▸ plD_ok harms hg1 _ _
  obtain ⟨⟨pa, pb⟩, hp⟩ : ∃ p, partF r.al r.ar = p := ⟨_, rfl⟩
  have fp : FOk (pa, pb) := hp ▸ part_ok al1 al2 ar1 ar2
  obtain ⟨o10, ho10⟩ : ∃ o, subF (ra0, rb0) (la0, lb0) = o := ⟨_, rfl⟩
  obtain ⟨⟨ax0, ay0⟩, hm10⟩ : ∃ p, mustF o10 = p := ⟨_, rfl⟩
  obtain ⟨o20, ho20⟩ : ∃ o, mulF (ax0, ay0) (pa, pb) = o := ⟨_, rfl⟩
  obtain ⟨⟨wx0, wy0⟩, hm20⟩ : ∃ p, mustF o20 = p := ⟨_, rfl⟩
  obtain ⟨o30, ho30⟩ : ∃ o, addF (la0, lb0) (wx0, wy0) = o := ⟨_, rfl⟩
  obtain ⟨⟨vx0, vy0⟩, hm30⟩ : ∃ p, mustF o30 = p := ⟨_, rfl⟩
  obtain ⟨o11, ho11⟩ : ∃ o, subF (ra1, rb1) (la1, lb1) = o := ⟨_, rfl⟩
  obtain ⟨⟨ax1, ay1⟩, hm11⟩ : ∃ p, mustF o11 = p := ⟨_, rfl⟩
  obtain ⟨o21, ho21⟩ : ∃ o, mulF (ax1, ay1) (pa, pb) = o := ⟨_, rfl⟩
  obtain ⟨⟨wx1, wy1⟩, hm21⟩ : ∃ p, mustF o21 = p := ⟨_, rfl⟩
  obtain ⟨o31, ho31⟩ : ∃ o, addF (la1, lb1) (wx1, wy1) = o := ⟨_, rfl⟩
  obtain ⟨⟨vx1, vy1⟩, hm31⟩ : ∃ p, mustF o31 = p := ⟨_, rfl⟩
  have hstep0 : stepD (plV l g0 r.left) (plV l g0 r.right) r.al r.ar = (vx0, vy0) ∧ (!stepOK (plV l g0 r.left) (plV l g0 r.right) r.al r.ar) = (!o10.isSome || !o20.isSome || !o30.isSome) := by
    unfold stepD stepOK
    rw [hl0, hr0, hp, ho10, hm10, ho20, hm20, ho30, hm30]
    exact ⟨rfl, by simp [Bool.not_and]⟩
  have hstep1 : stepD (plV l g1 r.left) (plV l g1 r.right) r.al r.ar = (vx1, vy1) ∧ (!stepOK (plV l g1 r.left) (plV l g1 r.right) r.al r.ar) = (!o11.isSome || !o21.isSome || !o31.isSome) := by
    unfold stepD stepOK
    rw [hl1, hr1, hp, ho11, hm11, ho21, hm21, ho31, hm31]
    exact ⟨rfl, by simp [Bool.not_and]⟩
  have fok0 := step_ok (hl0 ▸ fl0) (hr0 ▸ fr0) al1 al2 ar1 ar2
  have fok1 := step_ok (hl1 ▸ fl1) (hr1 ▸ fr1) al1 al2 ar1 ar2
  rw [hl0, hr0, hp, ho10, hm10, ho20, hm20] at fok0
  rw [hl1, hr1, hp, ho11, hm11, ho21, hm21] at fok1
  have fa0 : FOk (ax0, ay0) := fok0.1
  have fw0 : FOk (wx0, wy0) := fok0.2.1
  have fa1 : FOk (ax1, ay1) := fok1.1
  have fw1 : FOk (wx1, wy1) := fok1.2.1
  have hvl : valP l g0 g1 r.left = .agg #[.int .i64 la0, .int .i64 lb0, .int .i64 la1, .int .i64 lb1] := by unfold valP; rw [hl0, hl1]
  have hvr : valP l g0 g1 r.right = .agg #[.int .i64 ra0, .int .i64 rb0, .int .i64 ra1, .int .i64 rb1] := by unfold valP; rw [hr0, hr1]
  have hvn : valP l g0 g1 name = .agg #[.int .i64 vx0, .int .i64 vy0, .int .i64 vx1, .int .i64 vy1] := by unfold valP; rw [(plV_step h0 g0 hi hr).1, (plV_step h0 g1 hi hr).1, hstep0.1, hstep1.1]
  have hkn : knM l g0 g1 K name = none := by unfold knM; rw [hK]; rfl
  have hu2 : (knM l g0 g1 K name).getD (.agg #[.int .i64 0, .int .i64 0, .int .i64 0, .int .i64 0]) = .agg #[.int .i64 0, .int .i64 0, .int .i64 0, .int .i64 0] := by rw [hkn]; rfl
  have hu3 : (knM l g0 g1 K name).isSome = false := by rw [hkn]; rfl
  have hgd : (idxM l name).getD (.int .i64 0) = .int .i64 (i : Int) := by unfold idxM; rw [hi]; rfl
  have hlt := h.gp_lt
  have hlt2 := h.lt
  have hlo := h.lo
  have hin : i < n := by
    have h1 := h.tree.reads.len5
    have h2 := (List.getElem?_eq_some_iff.1 hr).1
    omega
  obtain ⟨xb, xo, r', rfl, hxb, hr', c0, c1, c2, c3, c4⟩ := h.tree.reads.rk hin
  obtain rfl : r = r' := Option.some.inj (hr.symm.trans hr')
  have hmb0 : Below w.heap.size w (w.alloc (.cells #[.int .i64 0, .int .i64 0, .int .i64 0, .int .i64 0] 36)) := (Below.refl _ _).alloc (Nat.le_refl _) _
  have hmap := h.map.below hmb0 (by omega)
  have y1 := (h.blk.below hmb0 hlt).cell 1
  have hrun := hmap.look Try.underlying9 Try.underlying70 (zero_arr2f _) name hnm
  rw [hu2, hu3] at hrun
  have H := Lib.hid h
  have HG := Lib.hid hG
  have HL := Lib.hid hL
  have HR := Lib.hid hR
  have HPL := Lib.hid hpl
  have HPR := Lib.hid hpr
  have HC := Lib.hid (show cnt + (ml + mr) ≤ 1000000000000000 from hc)
  have HVL := Lib.hid hvl
  have HVR := Lib.hid hvr
  have HVN := Lib.hid hvn
  have HGD := Lib.hid hgd
  have HP := Lib.hid hp
  have S0 := Lib.hid hstep0
  have S1 := Lib.hid hstep1
  have O10 := Lib.hid ho10
  have M10 := Lib.hid hm10
  have O20 := Lib.hid ho20
  have M20 := Lib.hid hm20
  have O30 := Lib.hid ho30
  have M30 := Lib.hid hm30
  have O11 := Lib.hid ho11
  have M11 := Lib.hid hm11
  have O21 := Lib.hid ho21
  have M21 := Lib.hid hm21
  have O31 := Lib.hid ho31
  have M31 := Lib.hid hm31
  have FO := Lib.hid (And.intro fl0 (And.intro fl1 (And.intro fr0 (And.intro fr1 (And.intro fp (And.intro fa0 (And.intro fw0 (And.intro fa1 fw1))))))))
  have HI := Lib.hid (And.intro h0 (And.intro hi hr))
  have C0 := Lib.hid c0
  have C1 := Lib.hid c1
  have C2 := Lib.hid c2
  have C3 := Lib.hid c3
  have C4 := Lib.hid c4
  clear hmap h hG hL hR hpl hpr hc hvl hvr hvn hgd hp hstep0 hstep1 ho10 hm10 ho20 hm20 ho30 hm30 ho11 hm11 ho21 hm21 ho31 hm31 fl0 fl1 fr0 fr1 fp fok0 fok1 fa0 fw0 fa1 fw1 c0 c1 c2 c3 c4 hkn hK hl0 hl1 hr0 hr1 hmb0 hg0 hg1 hfits harms hr hr' hi h0
  go_enter Try.func29, Try.ntmps29
  go_upto_region 4 with fail
  generalize hwn : ((w.alloc (.cells #[.int .i64 (0), .int .i64 (0), .int .i64 (0), .int .i64 (0)] 36)).alloc (.cells #[.int .i64 (0), .int .i64 (0), .int .i64 (0), .int .i64 (0)] 36)) = w1
  have hbn : Below w.heap.size w w1 := by rw [← hwn]; repeat' (first | exact Below.refl _ _ | refine below_drewN ?_ _ | refine Below.drew ?_ | refine Below.alloc ?_ (by first | omega | (simp; done) | (simp; omega) | (simp [World.setCell]; omega)) _ | refine Below.setCell ?_ (by first | omega | (simp; done) | (simp; omega)) _)
  have K0_1 := Lib.hid (show Blk w1 (w.heap.size) 36 #[.int .i64 (0), .int .i64 (0), .int .i64 (0), .int .i64 (0)] by rw [← hwn]; repeat' (first | exact Blk.at_ _ (by first | rfl | (simp; done) | (simp; omega)) _ _ | refine Blk.drewN ?_ _ | refine Blk.drew ?_ | refine Blk.alloc ?_ _ | refine Blk.far ?_ (by first | omega | (simp; done) | (simp; omega)) _ | assumption))
  have K1_1 := Lib.hid (show Blk w1 (w.heap.size + 1) 36 #[.int .i64 (0), .int .i64 (0), .int .i64 (0), .int .i64 (0)] by rw [← hwn]; repeat' (first | exact Blk.at_ _ (by first | rfl | (simp; done) | (simp; omega)) _ _ | refine Blk.drewN ?_ _ | refine Blk.drew ?_ | refine Blk.alloc ?_ _ | refine Blk.far ?_ (by first | omega | (simp; done) | (simp; omega)) _ | assumption))
  have hbT := Two.of (a := gp) (b := gm) hbn
  have HW1 := Lib.hid (show Two gp gm w w1 from hbT)
  have hz1 := hbT.size
  have HN1 := Lib.hid hbn
  clear hwn hbn hbT
  have l0_1 : w.heap.size < w1.heap.size := K0_1.out.lt
  have z0_0_1 : w1.cell? ⟨w.heap.size, 0, none⟩ = some (.int .i64 (0)) := K0_1.out.cell 0
  have z0_1_1 : w1.cell? ⟨w.heap.size, 1, none⟩ = some (.int .i64 (0)) := K0_1.out.cell 1
  have z0_2_1 : w1.cell? ⟨w.heap.size, 2, none⟩ = some (.int .i64 (0)) := K0_1.out.cell 2
  have z0_3_1 : w1.cell? ⟨w.heap.size, 3, none⟩ = some (.int .i64 (0)) := K0_1.out.cell 3
  have l1_1 : w.heap.size + 1 < w1.heap.size := K1_1.out.lt
  have z1_0_1 : w1.cell? ⟨w.heap.size + 1, 0, none⟩ = some (.int .i64 (0)) := K1_1.out.cell 0
  have z1_1_1 : w1.cell? ⟨w.heap.size + 1, 1, none⟩ = some (.int .i64 (0)) := K1_1.out.cell 1
  have z1_2_1 : w1.cell? ⟨w.heap.size + 1, 2, none⟩ = some (.int .i64 (0)) := K1_1.out.cell 2
  have z1_3_1 : w1.cell? ⟨w.heap.size + 1, 3, none⟩ = some (.int .i64 (0)) := K1_1.out.cell 3
  clear hrun y1 hu2 hu3
  have hP1 := H.out.below HN1.out hlt
  have hgp : gp < w1.heap.size := by omega
  have hgm : gm < w1.heap.size := by omega
  have hS : StbL w1 (fun _ w' => PivAt l g0 g1 (some ⟨xb, xo, none⟩) n c tb mb top n₀ gm gp K cnt lg w') := fun f w w' hb h => h.below hb hgp
  have hii : (i : Int) < (n : Int) := by omega
  have B1 := Lib.hid (HN1.out.mono (show n₀ ≤ w.heap.size by omega))
  refine Fx.regionM (fun W g f w' => KpP gp gm (fun _ w' => PivAt l g0 g1 (some ⟨xb, xo, none⟩) n c tb mb top n₀ gm gp K cnt lg w') [(18, 19, 65, [.string r.name, .string r.left, .string r.right, .int .i64 (r.al), .int .i64 (r.ar)])] W g f w') (fun i (x : Nat) => .pointer (some ⟨x, 0, none⟩)) (by kernel_rfl) ?_ ?_
  · intro f hf0
    exact KpP.start (hP1.below (below_drewN (Below.refl _ _) 1) hgp)
  first
  | (refine Fx.WM.skip 0 (by rfl) (by kernel_rfl) (by kernel_rfl) (by kernel_rfl) (by rfl) (fun g f w h => h.same (by simp) (h.loc)) ?_; simp only [Act.put, List.setIfInBounds_toArray, List.set_cons_zero, List.set_cons_succ])
  | (refine Fx.WM.val_ 0 ?_ (by rfl) (by kernel_rfl) (by kernel_rfl) (by kernel_rfl) (by rfl) ?_ (fun g f w h => h.same (by simp) (h.loc)) ?_
     rotate_left
     · intro g f w' hx hD hk
       obtain hkp := id hD
       clear hx hk hD hkp
       go_simp
       try rfl
     simp only [Act.put, List.setIfInBounds_toArray, List.set_cons_zero, List.set_cons_succ])
  first
  | (refine Fx.WM.skip 1 (by rfl) (by kernel_rfl) (by kernel_rfl) (by kernel_rfl) (by rfl) (fun g f w h => h.same (by simp) (h.loc)) ?_; simp only [Act.put, List.setIfInBounds_toArray, List.set_cons_zero, List.set_cons_succ])
  | (refine Fx.WM.val_ 1 ?_ (by rfl) (by kernel_rfl) (by kernel_rfl) (by kernel_rfl) (by rfl) ?_ (fun g f w h => h.same (by simp) (h.loc)) ?_
     rotate_left
     · intro g f w' hx hD hk
       obtain hkp := id hD
       clear hx hk hD hkp
       go_simp
       try rfl
     simp only [Act.put, List.setIfInBounds_toArray, List.set_cons_zero, List.set_cons_succ])
  first
  | (refine Fx.WM.skip 2 (by rfl) (by kernel_rfl) (by kernel_rfl) (by kernel_rfl) (by rfl) (fun g f w h => h.same (by simp) (h.loc)) ?_; simp only [Act.put, List.setIfInBounds_toArray, List.set_cons_zero, List.set_cons_succ])
  | (refine Fx.WM.val_ 2 ?_ (by rfl) (by kernel_rfl) (by kernel_rfl) (by kernel_rfl) (by rfl) ?_ (fun g f w h => h.same (by simp) (h.loc)) ?_
     rotate_left
     · intro g f w' hx hD hk
       obtain hkp := id hD
       clear hx hk hD hkp
       go_simp
       try rfl
     simp only [Act.put, List.setIfInBounds_toArray, List.set_cons_zero, List.set_cons_succ])
  first
  | (refine Fx.WM.skip 3 (by rfl) (by kernel_rfl) (by kernel_rfl) (by kernel_rfl) (by rfl) (fun g f w h => h.same (by simp) (h.loc)) ?_; simp only [Act.put, List.setIfInBounds_toArray, List.set_cons_zero, List.set_cons_succ])
  | (refine Fx.WM.val_ 3 ?_ (by rfl) (by kernel_rfl) (by kernel_rfl) (by kernel_rfl) (by rfl) ?_ (fun g f w h => h.same (by simp) (h.loc)) ?_
     rotate_left
     · intro g f w' hx hD hk
       obtain hkp := id hD
       have e0 := hkp.loc.blk.cell 0
       clear hx hk hD hkp
       go_simp
       try rfl
     simp only [Act.put, List.setIfInBounds_toArray, List.set_cons_zero, List.set_cons_succ])
  first
  | (refine Fx.WM.skip 4 (by rfl) (by kernel_rfl) (by kernel_rfl) (by kernel_rfl) (by rfl) (fun g f w h => h.same (by simp) (h.loc)) ?_; simp only [Act.put, List.setIfInBounds_toArray, List.set_cons_zero, List.set_cons_succ])
  | (refine Fx.WM.val_ 4 ?_ (by rfl) (by kernel_rfl) (by kernel_rfl) (by kernel_rfl) (by rfl) ?_ (fun g f w h => h.same (by simp) (h.loc)) ?_
     rotate_left
     · intro g f w' hx hD hk
       obtain hkp := id hD
       clear hx hk hD hkp
       go_simp
       try rfl
     simp only [Act.put, List.setIfInBounds_toArray, List.set_cons_zero, List.set_cons_succ])
  first
  | (refine Fx.WM.skip 5 (by rfl) (by kernel_rfl) (by kernel_rfl) (by kernel_rfl) (by rfl) (fun g f w h => h.same (by simp) (h.loc)) ?_; simp only [Act.put, List.setIfInBounds_toArray, List.set_cons_zero, List.set_cons_succ])
  | (refine Fx.WM.val_ 5 ?_ (by rfl) (by kernel_rfl) (by kernel_rfl) (by kernel_rfl) (by rfl) ?_ (fun g f w h => h.same (by simp) (h.loc)) ?_
     rotate_left
     · intro g f w' hx hD hk
       obtain hkp := id hD
       clear hx hk hD hkp
       go_simp
       try rfl
     simp only [Act.put, List.setIfInBounds_toArray, List.set_cons_zero, List.set_cons_succ])
  first
  | (refine Fx.WM.skip 6 (by rfl) (by kernel_rfl) (by kernel_rfl) (by kernel_rfl) (by rfl) (fun g f w h => h.same (by simp) (h.loc)) ?_; simp only [Act.put, List.setIfInBounds_toArray, List.set_cons_zero, List.set_cons_succ])
  | (refine Fx.WM.val_ 6 ?_ (by rfl) (by kernel_rfl) (by kernel_rfl) (by kernel_rfl) (by rfl) ?_ (fun g f w h => h.same (by simp) (h.loc)) ?_
     rotate_left
     · intro g f w' hx hD hk
       obtain hkp := id hD
       have e0 := hkp.loc.tree.tree.cell 0
       clear hx hk hD hkp
       go_simp
       try rfl
     simp only [Act.put, List.setIfInBounds_toArray, List.set_cons_zero, List.set_cons_succ])
  first
  | (refine Fx.WM.skip 7 (by rfl) (by kernel_rfl) (by kernel_rfl) (by kernel_rfl) (by rfl) (fun g f w h => h.same (by simp) (h.loc)) ?_; simp only [Act.put, List.setIfInBounds_toArray, List.set_cons_zero, List.set_cons_succ])
  | (refine Fx.WM.val_ 7 ?_ (by rfl) (by kernel_rfl) (by kernel_rfl) (by kernel_rfl) (by rfl) ?_ (fun g f w h => h.same (by simp) (h.loc)) ?_
     rotate_left
     · intro g f w' hx hD hk
       obtain hkp := id hD
       clear hx hk hD hkp
       go_simp
       try rfl
     simp only [Act.put, List.setIfInBounds_toArray, List.set_cons_zero, List.set_cons_succ])
  first
  | (refine Fx.WM.skip 8 (by rfl) (by kernel_rfl) (by kernel_rfl) (by kernel_rfl) (by rfl) (fun g f w h => h.same (by simp) (h.loc)) ?_; simp only [Act.put, List.setIfInBounds_toArray, List.set_cons_zero, List.set_cons_succ])
  | (refine Fx.WM.val_ 8 ?_ (by rfl) (by kernel_rfl) (by kernel_rfl) (by kernel_rfl) (by rfl) ?_ (fun g f w h => h.same (by simp) (h.loc)) ?_
     rotate_left
     · intro g f w' hx hD hk
       obtain hkp := id hD
       clear hx hk hD hkp
       go_simp
       try rfl
     simp only [Act.put, List.setIfInBounds_toArray, List.set_cons_zero, List.set_cons_succ])
  first
  | (refine Fx.WM.skip 9 (by rfl) (by kernel_rfl) (by kernel_rfl) (by kernel_rfl) (by rfl) (fun g f w h => h.same (by simp) (h.loc)) ?_; simp only [Act.put, List.setIfInBounds_toArray, List.set_cons_zero, List.set_cons_succ])
  | (refine Fx.WM.val_ 9 ?_ (by rfl) (by kernel_rfl) (by kernel_rfl) (by kernel_rfl) (by rfl) ?_ (fun g f w h => h.same (by simp) (h.loc)) ?_
     rotate_left
     · intro g f w' hx hD hk
       obtain hkp := id hD
       clear hx hk hD hkp
       go_simp
       try rfl
     simp only [Act.put, List.setIfInBounds_toArray, List.set_cons_zero, List.set_cons_succ])
  first
  | (refine Fx.WM.skip 10 (by rfl) (by kernel_rfl) (by kernel_rfl) (by kernel_rfl) (by rfl) (fun g f w h => h.same (by simp) (h.loc)) ?_; simp only [Act.put, List.setIfInBounds_toArray, List.set_cons_zero, List.set_cons_succ])
  | (refine Fx.WM.val_ 10 ?_ (by rfl) (by kernel_rfl) (by kernel_rfl) (by kernel_rfl) (by rfl) ?_ (fun g f w h => h.same (by simp) (h.loc)) ?_
     rotate_left
     · intro g f w' hx hD hk
       obtain hkp := id hD
       have e0 := hkp.loc.blk.cell 0
       clear hx hk hD hkp
       go_simp
       try rfl
     simp only [Act.put, List.setIfInBounds_toArray, List.set_cons_zero, List.set_cons_succ])
  first
  | (refine Fx.WM.skip 11 (by rfl) (by kernel_rfl) (by kernel_rfl) (by kernel_rfl) (by rfl) (fun g f w h => h.same (by simp) (h.loc)) ?_; simp only [Act.put, List.setIfInBounds_toArray, List.set_cons_zero, List.set_cons_succ])
  | (refine Fx.WM.val_ 11 ?_ (by rfl) (by kernel_rfl) (by kernel_rfl) (by kernel_rfl) (by rfl) ?_ (fun g f w h => h.same (by simp) (h.loc)) ?_
     rotate_left
     · intro g f w' hx hD hk
       obtain hkp := id hD
       clear hx hk hD hkp
       go_simp
       try rfl
     simp only [Act.put, List.setIfInBounds_toArray, List.set_cons_zero, List.set_cons_succ])
  first
  | (refine Fx.WM.skip 12 (by rfl) (by kernel_rfl) (by kernel_rfl) (by kernel_rfl) (by rfl) (fun g f w h => h.same (by simp) (h.loc)) ?_; simp only [Act.put, List.setIfInBounds_toArray, List.set_cons_zero, List.set_cons_succ])
  | (refine Fx.WM.val_ 12 ?_ (by rfl) (by kernel_rfl) (by kernel_rfl) (by kernel_rfl) (by rfl) ?_ (fun g f w h => h.same (by simp) (h.loc)) ?_
     rotate_left
     · intro g f w' hx hD hk
       obtain hkp := id hD
       clear hx hk hD hkp
       go_simp
       try rfl
     simp only [Act.put, List.setIfInBounds_toArray, List.set_cons_zero, List.set_cons_succ])
  first
  | (refine Fx.WM.skip 13 (by rfl) (by kernel_rfl) (by kernel_rfl) (by kernel_rfl) (by rfl) (fun g f w h => h.same (by simp) (h.loc)) ?_; simp only [Act.put, List.setIfInBounds_toArray, List.set_cons_zero, List.set_cons_succ])
  | (refine Fx.WM.val_ 13 ?_ (by rfl) (by kernel_rfl) (by kernel_rfl) (by kernel_rfl) (by rfl) ?_ (fun g f w h => h.same (by simp) (h.loc)) ?_
     rotate_left
     · intro g f w' hx hD hk
       obtain hkp := id hD
       have e0 := hkp.loc.tree.tree.cell 1
       clear hx hk hD hkp
       go_simp
       try rfl
     simp only [Act.put, List.setIfInBounds_toArray, List.set_cons_zero, List.set_cons_succ])
  first
  | (refine Fx.WM.skip 14 (by rfl) (by kernel_rfl) (by kernel_rfl) (by kernel_rfl) (by rfl) (fun g f w h => h.same (by simp) (h.loc)) ?_; simp only [Act.put, List.setIfInBounds_toArray, List.set_cons_zero, List.set_cons_succ])
  | (refine Fx.WM.val_ 14 ?_ (by rfl) (by kernel_rfl) (by kernel_rfl) (by kernel_rfl) (by rfl) ?_ (fun g f w h => h.same (by simp) (h.loc)) ?_
     rotate_left
     · intro g f w' hx hD hk
       obtain hkp := id hD
       clear hx hk hD hkp
       go_simp
       try rfl
     simp only [Act.put, List.setIfInBounds_toArray, List.set_cons_zero, List.set_cons_succ])
  first
  | (refine Fx.WM.skip 15 (by rfl) (by kernel_rfl) (by kernel_rfl) (by kernel_rfl) (by rfl) (fun g f w h => h.same (by simp) (h.loc)) ?_; simp only [Act.put, List.setIfInBounds_toArray, List.set_cons_zero, List.set_cons_succ])
  | (refine Fx.WM.val_ 15 ?_ (by rfl) (by kernel_rfl) (by kernel_rfl) (by kernel_rfl) (by rfl) ?_ (fun g f w h => h.same (by simp) (h.loc)) ?_
     rotate_left
     · intro g f w' hx hD hk
       obtain hkp := id hD
       have e0 := hkp.loc.tree.map.get Try.underlying9 Try.underlying98 (zero_int _) name hnm
       rw [HGD.out] at e0
       clear hx hk hD hkp
       go_simp
       try rfl
     simp only [Act.put, List.setIfInBounds_toArray, List.set_cons_zero, List.set_cons_succ])
  first
  | (refine Fx.WM.skip 16 (by rfl) (by kernel_rfl) (by kernel_rfl) (by kernel_rfl) (by rfl) (fun g f w h => h.same (by simp) (h.loc)) ?_; simp only [Act.put, List.setIfInBounds_toArray, List.set_cons_zero, List.set_cons_succ])
  | (refine Fx.WM.val_ 16 ?_ (by rfl) (by kernel_rfl) (by kernel_rfl) (by kernel_rfl) (by rfl) ?_ (fun g f w h => h.same (by simp) (h.loc)) ?_
     rotate_left
     · intro g f w' hx hD hk
       obtain hkp := id hD
       clear hx hk hD hkp
       go_simp
       try rfl
     simp only [Act.put, List.setIfInBounds_toArray, List.set_cons_zero, List.set_cons_succ])
  first
  | (refine Fx.WM.skip 17 (by rfl) (by kernel_rfl) (by kernel_rfl) (by kernel_rfl) (by rfl) (fun g f w h => h.same (by simp) (h.loc)) ?_; simp only [Act.put, List.setIfInBounds_toArray, List.set_cons_zero, List.set_cons_succ])
  | (refine Fx.WM.val_ 17 ?_ (by rfl) (by kernel_rfl) (by kernel_rfl) (by kernel_rfl) (by rfl) ?_ (fun g f w h => h.same (by simp) (h.loc)) ?_
     rotate_left
     · intro g f w' hx hD hk
       obtain hkp := id hD
       have eb := B1.out.trans (hkp.two.below (show n₀ ≤ w1.heap.size by omega) (by omega) (by omega))
       have e0 := (eb.cell (p := ⟨xb, xo + i * 5, none⟩) hxb).trans C0.out
       have e1 := (eb.cell (p := ⟨xb, xo + i * 5 + 1, none⟩) hxb).trans C1.out
       have e2 := (eb.cell (p := ⟨xb, xo + i * 5 + 2, none⟩) hxb).trans C2.out
       have e3 := (eb.cell (p := ⟨xb, xo + i * 5 + 3, none⟩) hxb).trans C3.out
       have e4 := (eb.cell (p := ⟨xb, xo + i * 5 + 4, none⟩) hxb).trans C4.out
       clear hx hk hD hkp
       go_simp
       try rfl
     simp only [Act.put, List.setIfInBounds_toArray, List.set_cons_zero, List.set_cons_succ])
  refine Fx.WM.choose 18 (by rfl) (by kernel_rfl) (by rfl) ?_ ?_
  · skip
    refine Fx.Chooses.make (by rfl) ?_
    intro f w' hD hk
    refine ⟨w'.heap.size, w'.alloc (.cells #[.string ByteArray.empty, .string ByteArray.empty, .string ByteArray.empty, .int .i64 (0), .int .i64 (0)] 65), ?_, ?_⟩
    · clear hk hD
      go_simp
      try rfl
    · exact hD.make (c := 18) (s := 19) (T := 65) (vs := [.string r.name, .string r.left, .string r.right, .int .i64 (r.al), .int .i64 (r.ar)]) (by simp) (by intro m hm e; simp only [List.mem_cons, List.not_mem_nil, or_false] at hm; rcases hm with rfl <;> first | rfl | (simp at e)) (by simp) [.string ByteArray.empty, .string ByteArray.empty, .string ByteArray.empty, .int .i64 (0), .int .i64 (0)] rfl (hk.2.1 19 (by kernel_rfl)) ((hD.loc.below ((Below.refl _ _).alloc (Nat.le_refl _) _) (by have := hD.two.size; omega)))
  intro rb
  simp only [Act.put, List.setIfInBounds_toArray, List.set_cons_zero, List.set_cons_succ]
  refine Fx.WM.eff 19 undef (by rfl) (by kernel_rfl) (by kernel_rfl) (by kernel_rfl) (by rfl) ?_ ?_
  · intro g f w' hx hD hk
    have hxq := hx 18 _ (by rfl)
    obtain ⟨eq0, kq0, rq0⟩ := KpP.cell hD (c := 18) (s := 19) (T := 65) (vs := [.string r.name, .string r.left, .string r.right, .int .i64 (r.al), .int .i64 (r.ar)]) (by simp) hxq 0 (by simp)
    obtain ⟨eq1, kq1, rq1⟩ := KpP.cell hD (c := 18) (s := 19) (T := 65) (vs := [.string r.name, .string r.left, .string r.right, .int .i64 (r.al), .int .i64 (r.ar)]) (by simp) hxq 1 (by simp)
    obtain ⟨eq2, kq2, rq2⟩ := KpP.cell hD (c := 18) (s := 19) (T := 65) (vs := [.string r.name, .string r.left, .string r.right, .int .i64 (r.al), .int .i64 (r.ar)]) (by simp) hxq 2 (by simp)
    obtain ⟨eq3, kq3, rq3⟩ := KpP.cell hD (c := 18) (s := 19) (T := 65) (vs := [.string r.name, .string r.left, .string r.right, .int .i64 (r.al), .int .i64 (r.ar)]) (by simp) hxq 3 (by simp)
    obtain ⟨eq4, kq4, rq4⟩ := KpP.cell hD (c := 18) (s := 19) (T := 65) (vs := [.string r.name, .string r.left, .string r.right, .int .i64 (r.al), .int .i64 (r.ar)]) (by simp) hxq 4 (by simp)
    refine Fx.gives_skip (w' := (((((w'.setCell ⟨rb, 0, none⟩ (.string r.name)).setCell ⟨rb, 1, none⟩ (.string r.left)).setCell ⟨rb, 2, none⟩ (.string r.right)).setCell ⟨rb, 3, none⟩ (.int .i64 (r.al))).setCell ⟨rb, 4, none⟩ (.int .i64 (r.ar)))) ?_ ?_
    · clear hx hk hD hxq
      go_simp
      try rfl
    · exact KpP.store hD hS (c := 18) (s := 19) (T := 65) (vs := [.string r.name, .string r.left, .string r.right, .int .i64 (r.al), .int .i64 (r.ar)]) (by simp) (by intro m hm e; simp only [List.mem_cons, List.not_mem_nil, or_false] at hm; rcases hm with rfl <;> first | rfl | (simp at e)) (by intro m hm e; simp only [List.mem_cons, List.not_mem_nil, or_false] at hm; rcases hm with rfl <;> first | rfl | (simp at e)) hxq (fun w h => h)
  simp only [Act.put, List.setIfInBounds_toArray, List.set_cons_zero, List.set_cons_succ]
  refine Fx.WM.nil (by kernel_rfl) ?_
  intro wz hkp
  obtain ⟨hrb_le, hrb⟩ := hkp.end_ (c := 18) (s := 19) (T := 65) (vs := [.string r.name, .string r.left, .string r.right, .int .i64 (r.al), .int .i64 (r.ar)]) (by simp) (x := rb) (by rfl) (by rfl)
  have hT := hkp.two
  have hP := hkp.loc
  clear hkp hS hP1
  obtain ⟨w2, hnm⟩ : ∃ z : World, z = wz := ⟨_, rfl⟩
  subst hnm
  have HP2 := Lib.hid hP
  have hgrb : w.heap.size + 2 ≤ rb := by omega
  have HW2 := Lib.hid (show Two gp gm w w2 from HW1.out.trans hT)
  have K0_2 := Lib.hid (hT.blk K0_1.out (by omega) (by omega))
  have K1_2 := Lib.hid (hT.blk K1_1.out (by omega) (by omega))
  have hz2 := hT.size
  clear K0_1 l0_1 z0_0_1 z0_1_1 z0_2_1 z0_3_1 K1_1 l1_1 z1_0_1 z1_1_1 z1_2_1 z1_3_1
  have l0_2 : w.heap.size < w2.heap.size := K0_2.out.lt
  have z0_0_2 : w2.cell? ⟨w.heap.size, 0, none⟩ = some (.int .i64 (0)) := K0_2.out.cell 0
  have z0_1_2 : w2.cell? ⟨w.heap.size, 1, none⟩ = some (.int .i64 (0)) := K0_2.out.cell 1
  have z0_2_2 : w2.cell? ⟨w.heap.size, 2, none⟩ = some (.int .i64 (0)) := K0_2.out.cell 2
  have z0_3_2 : w2.cell? ⟨w.heap.size, 3, none⟩ = some (.int .i64 (0)) := K0_2.out.cell 3
  have l1_2 : w.heap.size + 1 < w2.heap.size := K1_2.out.lt
  have z1_0_2 : w2.cell? ⟨w.heap.size + 1, 0, none⟩ = some (.int .i64 (0)) := K1_2.out.cell 0
  have z1_1_2 : w2.cell? ⟨w.heap.size + 1, 1, none⟩ = some (.int .i64 (0)) := K1_2.out.cell 1
  have z1_2_2 : w2.cell? ⟨w.heap.size + 1, 2, none⟩ = some (.int .i64 (0)) := K1_2.out.cell 2
  have z1_3_2 : w2.cell? ⟨w.heap.size + 1, 3, none⟩ = some (.int .i64 (0)) := K1_2.out.cell 3
  have K2_2 := Lib.hid (show Blk w2 (rb) 65 #[.string r.name, .string r.left, .string r.right, .int .i64 (r.al), .int .i64 (r.ar)] from hrb)
  have l2_2 : rb < w2.heap.size := K2_2.out.lt
  have z2_0_2 : w2.cell? ⟨rb, 0, none⟩ = some (.string r.name) := K2_2.out.cell 0
  have z2_1_2 : w2.cell? ⟨rb, 1, none⟩ = some (.string r.left) := K2_2.out.cell 1
  have z2_2_2 : w2.cell? ⟨rb, 2, none⟩ = some (.string r.right) := K2_2.out.cell 2
  have z2_3_2 : w2.cell? ⟨rb, 3, none⟩ = some (.int .i64 (r.al)) := K2_2.out.cell 3
  have z2_4_2 : w2.cell? ⟨rb, 4, none⟩ = some (.int .i64 (r.ar)) := K2_2.out.cell 4
  clear hT hP hrb
  have hgp : gp < w2.heap.size := by omega
  have hgm : gm < w2.heap.size := by omega
  go_upto_region 5 with fail
  have hS : StbL w2 (P5 l g0 g1 (some ⟨xb, xo, none⟩) n c tb mb top n₀ gm gp r.left r.right ml mr K cnt) := fun f w w' hb h => h.below hb hgp
  refine Fx.regionM (fun W g f w' => KpP gp gm (P5 l g0 g1 (some ⟨xb, xo, none⟩) n c tb mb top n₀ gm gp r.left r.right ml mr K cnt) [(8, 10, 36, [.int .i64 (la0), .int .i64 (lb0), .int .i64 (la1), .int .i64 (lb1)]), (9, 11, 36, [.int .i64 (ra0), .int .i64 (rb0), .int .i64 (ra1), .int .i64 (rb1)])] W g f w') (fun i (x : Nat) => .pointer (some ⟨x, 0, none⟩)) (by kernel_rfl) ?_ ?_
  · intro f hf0
    exact KpP.start (P5.start (HP2.out.below (below_drewN (Below.refl _ _) 1) hgp) HG.out (hf0 3) (hf0 7))
  first
  | (refine Fx.WM.skip 0 (by rfl) (by kernel_rfl) (by kernel_rfl) (by kernel_rfl) (by rfl) (fun g f w h => h.same (by simp) (h.loc.same (by decide) (by decide))) ?_; simp only [Act.put, List.setIfInBounds_toArray, List.set_cons_zero, List.set_cons_succ])
  | (refine Fx.WM.val_ 0 ?_ (by rfl) (by kernel_rfl) (by kernel_rfl) (by kernel_rfl) (by rfl) ?_ (fun g f w h => h.same (by simp) (h.loc.same (by decide) (by decide))) ?_
     rotate_left
     · intro g f w' hx hD hk
       obtain hkp := id hD
       clear hx hk hD hkp
       go_simp
       try rfl
     simp only [Act.put, List.setIfInBounds_toArray, List.set_cons_zero, List.set_cons_succ])
  first
  | (refine Fx.WM.skip 1 (by rfl) (by kernel_rfl) (by kernel_rfl) (by kernel_rfl) (by rfl) (fun g f w h => h.same (by simp) (h.loc.same (by decide) (by decide))) ?_; simp only [Act.put, List.setIfInBounds_toArray, List.set_cons_zero, List.set_cons_succ])
  | (refine Fx.WM.val_ 1 ?_ (by rfl) (by kernel_rfl) (by kernel_rfl) (by kernel_rfl) (by rfl) ?_ (fun g f w h => h.same (by simp) (h.loc.same (by decide) (by decide))) ?_
     rotate_left
     · intro g f w' hx hD hk
       obtain hkp := id hD
       clear hx hk hD hkp
       go_simp
       try rfl
     simp only [Act.put, List.setIfInBounds_toArray, List.set_cons_zero, List.set_cons_succ])
  first
  | (refine Fx.WM.skip 2 (by rfl) (by kernel_rfl) (by kernel_rfl) (by kernel_rfl) (by rfl) (fun g f w h => h.same (by simp) (h.loc.same (by decide) (by decide))) ?_; simp only [Act.put, List.setIfInBounds_toArray, List.set_cons_zero, List.set_cons_succ])
  | (refine Fx.WM.val_ 2 ?_ (by rfl) (by kernel_rfl) (by kernel_rfl) (by kernel_rfl) (by rfl) ?_ (fun g f w h => h.same (by simp) (h.loc.same (by decide) (by decide))) ?_
     rotate_left
     · intro g f w' hx hD hk
       obtain hkp := id hD
       have e0 := (hkp.two.blk K2_2.out (by omega) (by omega)).cell 1
       clear hx hk hD hkp
       go_simp
       try rfl
     simp only [Act.put, List.setIfInBounds_toArray, List.set_cons_zero, List.set_cons_succ])
  refine Fx.WM.call 3 (.agg #[.int .i64 (la0), .int .i64 (lb0), .int .i64 (la1), .int .i64 (lb1)]) ?_ ?_ (by rfl) (by kernel_rfl) (by kernel_rfl) (by kernel_rfl) (by rfl) ?_ ?_ ?_
  rotate_left 2
  · intro w'
    go_simp
    refine ⟨?_, ?_⟩ <;> rfl
  · intro g f w' hx hD hk
    exact ((hD.loc.left hk.1 (hk.un 7 3 (by kernel_rfl) hk.1) HL.out HPL.out HC.out).mono fun e w'' ⟨he, hT, hL⟩ => (⟨he.trans (by rw [HVL.out]), hT, hL⟩ : _ ∧ _ ∧ _)).mono fun e w'' ⟨he, hT, hL⟩ => ⟨he, hD.call (by simp) hgp hgm hT hL⟩
  simp only [Act.put, List.setIfInBounds_toArray, List.set_cons_zero, List.set_cons_succ]
  first
  | (refine Fx.WM.skip 4 (by rfl) (by kernel_rfl) (by kernel_rfl) (by kernel_rfl) (by rfl) (fun g f w h => h.same (by simp) (h.loc.same (by decide) (by decide))) ?_; simp only [Act.put, List.setIfInBounds_toArray, List.set_cons_zero, List.set_cons_succ])
  | (refine Fx.WM.val_ 4 ?_ (by rfl) (by kernel_rfl) (by kernel_rfl) (by kernel_rfl) (by rfl) ?_ (fun g f w h => h.same (by simp) (h.loc.same (by decide) (by decide))) ?_
     rotate_left
     · intro g f w' hx hD hk
       obtain hkp := id hD
       clear hx hk hD hkp
       go_simp
       try rfl
     simp only [Act.put, List.setIfInBounds_toArray, List.set_cons_zero, List.set_cons_succ])
  first
  | (refine Fx.WM.skip 5 (by rfl) (by kernel_rfl) (by kernel_rfl) (by kernel_rfl) (by rfl) (fun g f w h => h.same (by simp) (h.loc.same (by decide) (by decide))) ?_; simp only [Act.put, List.setIfInBounds_toArray, List.set_cons_zero, List.set_cons_succ])
  | (refine Fx.WM.val_ 5 ?_ (by rfl) (by kernel_rfl) (by kernel_rfl) (by kernel_rfl) (by rfl) ?_ (fun g f w h => h.same (by simp) (h.loc.same (by decide) (by decide))) ?_
     rotate_left
     · intro g f w' hx hD hk
       obtain hkp := id hD
       clear hx hk hD hkp
       go_simp
       try rfl
     simp only [Act.put, List.setIfInBounds_toArray, List.set_cons_zero, List.set_cons_succ])
  first
  | (refine Fx.WM.skip 6 (by rfl) (by kernel_rfl) (by kernel_rfl) (by kernel_rfl) (by rfl) (fun g f w h => h.same (by simp) (h.loc.same (by decide) (by decide))) ?_; simp only [Act.put, List.setIfInBounds_toArray, List.set_cons_zero, List.set_cons_succ])
  | (refine Fx.WM.val_ 6 ?_ (by rfl) (by kernel_rfl) (by kernel_rfl) (by kernel_rfl) (by rfl) ?_ (fun g f w h => h.same (by simp) (h.loc.same (by decide) (by decide))) ?_
     rotate_left
     · intro g f w' hx hD hk
       obtain hkp := id hD
       have e0 := (hkp.two.blk K2_2.out (by omega) (by omega)).cell 2
       clear hx hk hD hkp
       go_simp
       try rfl
     simp only [Act.put, List.setIfInBounds_toArray, List.set_cons_zero, List.set_cons_succ])
  refine Fx.WM.call 7 (.agg #[.int .i64 (ra0), .int .i64 (rb0), .int .i64 (ra1), .int .i64 (rb1)]) ?_ ?_ (by rfl) (by kernel_rfl) (by kernel_rfl) (by kernel_rfl) (by rfl) ?_ ?_ ?_
  rotate_left 2
  · intro w'
    go_simp
    refine ⟨?_, ?_⟩ <;> rfl
  · intro g f w' hx hD hk
    exact ((hD.loc.right (hk.2.2.1 3 (by kernel_rfl)) hk.1 HR.out HPR.out HC.out).mono fun e w'' ⟨he, hT, hL⟩ => (⟨he.trans (by rw [HVR.out]), hT, hL⟩ : _ ∧ _ ∧ _)).mono fun e w'' ⟨he, hT, hL⟩ => ⟨he, hD.call (by simp) hgp hgm hT hL⟩
  simp only [Act.put, List.setIfInBounds_toArray, List.set_cons_zero, List.set_cons_succ]
  apply share (Fact := fun (x z : Nat) (wz : World) => x ≠ z ∧ w2.heap.size ≤ x ∧ w2.heap.size ≤ z ∧ Two gp gm w2 wz ∧ Blk wz x 36 #[.int .i64 la0, .int .i64 lb0, .int .i64 la1, .int .i64 lb1] ∧ Blk wz z 36 #[.int .i64 ra0, .int .i64 rb0, .int .i64 ra1, .int .i64 rb1] ∧ ∃ K' cnt' lg', PivAt l g0 g1 (some ⟨xb, xo, none⟩) n c tb mb top n₀ gm gp K' cnt' lg' wz ∧ Good l g0 g1 K' lg' ∧ (∀ x, K x = true → K' x = true) ∧ K' r.left = true ∧ K' r.right = true ∧ cnt' + 2 ≤ cnt + (ml + mr))
  · intro key
    refine Fx.WM.choose2 8 9 (by rfl) (by rfl) (by kernel_rfl) (by rfl) (by rfl) ?_ ?_ ?_ ?_
    · skip
      refine Fx.Chooses.make (by rfl) ?_
      intro f w' hD hk
      refine ⟨w'.heap.size, w'.alloc (.cells #[.int .i64 (0), .int .i64 (0), .int .i64 (0), .int .i64 (0)] 36), ?_, ?_⟩
      · clear hk hD
        go_simp
        try rfl
      · exact hD.make (c := 8) (s := 10) (T := 36) (vs := [.int .i64 (la0), .int .i64 (lb0), .int .i64 (la1), .int .i64 (lb1)]) (by simp) (by intro m hm e; simp only [List.mem_cons, List.not_mem_nil, or_false] at hm; rcases hm with rfl | rfl <;> first | rfl | (simp at e)) (by simp) [.int .i64 (0), .int .i64 (0), .int .i64 (0), .int .i64 (0)] rfl (hk.2.1 10 (by kernel_rfl)) ((hD.loc.below ((Below.refl _ _).alloc (Nat.le_refl _) _) (by have := hD.two.size; omega)).same (by decide) (by decide))
    · skip
      refine Fx.Chooses.make (by rfl) ?_
      intro f w' hD hk
      refine ⟨w'.heap.size, w'.alloc (.cells #[.int .i64 (0), .int .i64 (0), .int .i64 (0), .int .i64 (0)] 36), ?_, ?_⟩
      · clear hk hD
        go_simp
        try rfl
      · exact hD.make (c := 9) (s := 11) (T := 36) (vs := [.int .i64 (ra0), .int .i64 (rb0), .int .i64 (ra1), .int .i64 (rb1)]) (by simp) (by intro m hm e; simp only [List.mem_cons, List.not_mem_nil, or_false] at hm; rcases hm with rfl | rfl <;> first | rfl | (simp at e)) (by simp) [.int .i64 (0), .int .i64 (0), .int .i64 (0), .int .i64 (0)] rfl (hk.2.1 11 (by kernel_rfl)) ((hD.loc.below ((Below.refl _ _).alloc (Nat.le_refl _) _) (by have := hD.two.size; omega)).same (by decide) (by decide))
    · skip
      intro gl
      simp only [Act.put, List.setIfInBounds_toArray, List.set_cons_zero, List.set_cons_succ]
      refine Fx.WM.choose 9 (by rfl) (by kernel_rfl) (by rfl) ?_ ?_
      · skip
        refine Fx.Chooses.make (by rfl) ?_
        intro f w' hD hk
        refine ⟨w'.heap.size, w'.alloc (.cells #[.int .i64 (0), .int .i64 (0), .int .i64 (0), .int .i64 (0)] 36), ?_, ?_⟩
        · clear hk hD
          go_simp
          try rfl
        · exact hD.make (c := 9) (s := 11) (T := 36) (vs := [.int .i64 (ra0), .int .i64 (rb0), .int .i64 (ra1), .int .i64 (rb1)]) (by simp) (by intro m hm e; simp only [List.mem_cons, List.not_mem_nil, or_false] at hm; rcases hm with rfl | rfl <;> first | rfl | (simp at e)) (by simp) [.int .i64 (0), .int .i64 (0), .int .i64 (0), .int .i64 (0)] rfl (hk.2.1 11 (by kernel_rfl)) ((hD.loc.below ((Below.refl _ _).alloc (Nat.le_refl _) _) (by have := hD.two.size; omega)).same (by decide) (by decide))
      intro gr
      simp only [Act.put, List.setIfInBounds_toArray, List.set_cons_zero, List.set_cons_succ]
      refine Fx.WM.eff 10 undef (by rfl) (by kernel_rfl) (by kernel_rfl) (by kernel_rfl) (by rfl) ?_ ?_
      · intro g f w' hx hD hk
        have hxq := hx 8 _ (by rfl)
        obtain ⟨eq0, kq0, rq0⟩ := KpP.cell hD (c := 8) (s := 10) (T := 36) (vs := [.int .i64 (la0), .int .i64 (lb0), .int .i64 (la1), .int .i64 (lb1)]) (by simp) hxq 0 (by simp)
        obtain ⟨eq1, kq1, rq1⟩ := KpP.cell hD (c := 8) (s := 10) (T := 36) (vs := [.int .i64 (la0), .int .i64 (lb0), .int .i64 (la1), .int .i64 (lb1)]) (by simp) hxq 1 (by simp)
        obtain ⟨eq2, kq2, rq2⟩ := KpP.cell hD (c := 8) (s := 10) (T := 36) (vs := [.int .i64 (la0), .int .i64 (lb0), .int .i64 (la1), .int .i64 (lb1)]) (by simp) hxq 2 (by simp)
        obtain ⟨eq3, kq3, rq3⟩ := KpP.cell hD (c := 8) (s := 10) (T := 36) (vs := [.int .i64 (la0), .int .i64 (lb0), .int .i64 (la1), .int .i64 (lb1)]) (by simp) hxq 3 (by simp)
        refine Fx.gives_skip (w' := ((((w'.setCell ⟨gl, 0, none⟩ (.int .i64 (la0))).setCell ⟨gl, 1, none⟩ (.int .i64 (lb0))).setCell ⟨gl, 2, none⟩ (.int .i64 (la1))).setCell ⟨gl, 3, none⟩ (.int .i64 (lb1)))) ?_ ?_
        · clear hx hk hD hxq
          go_simp
          try rfl
        · exact KpP.store hD hS (c := 8) (s := 10) (T := 36) (vs := [.int .i64 (la0), .int .i64 (lb0), .int .i64 (la1), .int .i64 (lb1)]) (by simp) (by intro m hm e; simp only [List.mem_cons, List.not_mem_nil, or_false] at hm; rcases hm with rfl | rfl <;> first | rfl | (simp at e)) (by intro m hm e; simp only [List.mem_cons, List.not_mem_nil, or_false] at hm; rcases hm with rfl | rfl <;> first | rfl | (simp at e)) hxq (fun w h => h.same (by decide) (by decide))
      simp only [Act.put, List.setIfInBounds_toArray, List.set_cons_zero, List.set_cons_succ]
      refine Fx.WM.eff 11 undef (by rfl) (by kernel_rfl) (by kernel_rfl) (by kernel_rfl) (by rfl) ?_ ?_
      · intro g f w' hx hD hk
        have hxq := hx 9 _ (by rfl)
        obtain ⟨eq0, kq0, rq0⟩ := KpP.cell hD (c := 9) (s := 11) (T := 36) (vs := [.int .i64 (ra0), .int .i64 (rb0), .int .i64 (ra1), .int .i64 (rb1)]) (by simp) hxq 0 (by simp)
        obtain ⟨eq1, kq1, rq1⟩ := KpP.cell hD (c := 9) (s := 11) (T := 36) (vs := [.int .i64 (ra0), .int .i64 (rb0), .int .i64 (ra1), .int .i64 (rb1)]) (by simp) hxq 1 (by simp)
        obtain ⟨eq2, kq2, rq2⟩ := KpP.cell hD (c := 9) (s := 11) (T := 36) (vs := [.int .i64 (ra0), .int .i64 (rb0), .int .i64 (ra1), .int .i64 (rb1)]) (by simp) hxq 2 (by simp)
        obtain ⟨eq3, kq3, rq3⟩ := KpP.cell hD (c := 9) (s := 11) (T := 36) (vs := [.int .i64 (ra0), .int .i64 (rb0), .int .i64 (ra1), .int .i64 (rb1)]) (by simp) hxq 3 (by simp)
        refine Fx.gives_skip (w' := ((((w'.setCell ⟨gr, 0, none⟩ (.int .i64 (ra0))).setCell ⟨gr, 1, none⟩ (.int .i64 (rb0))).setCell ⟨gr, 2, none⟩ (.int .i64 (ra1))).setCell ⟨gr, 3, none⟩ (.int .i64 (rb1)))) ?_ ?_
        · clear hx hk hD hxq
          go_simp
          try rfl
        · exact KpP.store hD hS (c := 9) (s := 11) (T := 36) (vs := [.int .i64 (ra0), .int .i64 (rb0), .int .i64 (ra1), .int .i64 (rb1)]) (by simp) (by intro m hm e; simp only [List.mem_cons, List.not_mem_nil, or_false] at hm; rcases hm with rfl | rfl <;> first | rfl | (simp at e)) (by intro m hm e; simp only [List.mem_cons, List.not_mem_nil, or_false] at hm; rcases hm with rfl | rfl <;> first | rfl | (simp at e)) hxq (fun w h => h.same (by decide) (by decide))
      simp only [Act.put, List.setIfInBounds_toArray, List.set_cons_zero, List.set_cons_succ]
      refine Fx.WM.nil (by kernel_rfl) ?_
      intro wz hkp
      obtain ⟨hgl_le, hgl⟩ := hkp.end_ (c := 8) (s := 10) (T := 36) (vs := [.int .i64 (la0), .int .i64 (lb0), .int .i64 (la1), .int .i64 (lb1)]) (by simp) (x := gl) (by rfl) (by rfl)
      obtain ⟨hgr_le, hgr⟩ := hkp.end_ (c := 9) (s := 11) (T := 36) (vs := [.int .i64 (ra0), .int .i64 (rb0), .int .i64 (ra1), .int .i64 (rb1)]) (by simp) (x := gr) (by rfl) (by rfl)
      have hT := hkp.two
      have hP := hkp.loc
      have hne : gl ≠ gr := fun e => by have h1 := hkp.inj 8 9 gl (by rfl) (by rw [e]; rfl); exact absurd h1 (by decide)
      exact key gl gr wz ⟨hne, hgl_le, hgr_le, hT, hgl, hgr, hP.end_ (by rfl) (by rfl)⟩
    · skip
      intro gr
      simp only [Act.put, List.setIfInBounds_toArray, List.set_cons_zero, List.set_cons_succ]
      refine Fx.WM.choose 8 (by rfl) (by kernel_rfl) (by rfl) ?_ ?_
      · skip
        refine Fx.Chooses.make (by rfl) ?_
        intro f w' hD hk
        refine ⟨w'.heap.size, w'.alloc (.cells #[.int .i64 (0), .int .i64 (0), .int .i64 (0), .int .i64 (0)] 36), ?_, ?_⟩
        · clear hk hD
          go_simp
          try rfl
        · exact hD.make (c := 8) (s := 10) (T := 36) (vs := [.int .i64 (la0), .int .i64 (lb0), .int .i64 (la1), .int .i64 (lb1)]) (by simp) (by intro m hm e; simp only [List.mem_cons, List.not_mem_nil, or_false] at hm; rcases hm with rfl | rfl <;> first | rfl | (simp at e)) (by simp) [.int .i64 (0), .int .i64 (0), .int .i64 (0), .int .i64 (0)] rfl (hk.2.1 10 (by kernel_rfl)) ((hD.loc.below ((Below.refl _ _).alloc (Nat.le_refl _) _) (by have := hD.two.size; omega)).same (by decide) (by decide))
      intro gl
      simp only [Act.put, List.setIfInBounds_toArray, List.set_cons_zero, List.set_cons_succ]
      refine Fx.WM.eff 10 undef (by rfl) (by kernel_rfl) (by kernel_rfl) (by kernel_rfl) (by rfl) ?_ ?_
      · intro g f w' hx hD hk
        have hxq := hx 8 _ (by rfl)
        obtain ⟨eq0, kq0, rq0⟩ := KpP.cell hD (c := 8) (s := 10) (T := 36) (vs := [.int .i64 (la0), .int .i64 (lb0), .int .i64 (la1), .int .i64 (lb1)]) (by simp) hxq 0 (by simp)
        obtain ⟨eq1, kq1, rq1⟩ := KpP.cell hD (c := 8) (s := 10) (T := 36) (vs := [.int .i64 (la0), .int .i64 (lb0), .int .i64 (la1), .int .i64 (lb1)]) (by simp) hxq 1 (by simp)
        obtain ⟨eq2, kq2, rq2⟩ := KpP.cell hD (c := 8) (s := 10) (T := 36) (vs := [.int .i64 (la0), .int .i64 (lb0), .int .i64 (la1), .int .i64 (lb1)]) (by simp) hxq 2 (by simp)
        obtain ⟨eq3, kq3, rq3⟩ := KpP.cell hD (c := 8) (s := 10) (T := 36) (vs := [.int .i64 (la0), .int .i64 (lb0), .int .i64 (la1), .int .i64 (lb1)]) (by simp) hxq 3 (by simp)
        refine Fx.gives_skip (w' := ((((w'.setCell ⟨gl, 0, none⟩ (.int .i64 (la0))).setCell ⟨gl, 1, none⟩ (.int .i64 (lb0))).setCell ⟨gl, 2, none⟩ (.int .i64 (la1))).setCell ⟨gl, 3, none⟩ (.int .i64 (lb1)))) ?_ ?_
        · clear hx hk hD hxq
          go_simp
          try rfl
        · exact KpP.store hD hS (c := 8) (s := 10) (T := 36) (vs := [.int .i64 (la0), .int .i64 (lb0), .int .i64 (la1), .int .i64 (lb1)]) (by simp) (by intro m hm e; simp only [List.mem_cons, List.not_mem_nil, or_false] at hm; rcases hm with rfl | rfl <;> first | rfl | (simp at e)) (by intro m hm e; simp only [List.mem_cons, List.not_mem_nil, or_false] at hm; rcases hm with rfl | rfl <;> first | rfl | (simp at e)) hxq (fun w h => h.same (by decide) (by decide))
      simp only [Act.put, List.setIfInBounds_toArray, List.set_cons_zero, List.set_cons_succ]
      refine Fx.WM.eff 11 undef (by rfl) (by kernel_rfl) (by kernel_rfl) (by kernel_rfl) (by rfl) ?_ ?_
      · intro g f w' hx hD hk
        have hxq := hx 9 _ (by rfl)
        obtain ⟨eq0, kq0, rq0⟩ := KpP.cell hD (c := 9) (s := 11) (T := 36) (vs := [.int .i64 (ra0), .int .i64 (rb0), .int .i64 (ra1), .int .i64 (rb1)]) (by simp) hxq 0 (by simp)
        obtain ⟨eq1, kq1, rq1⟩ := KpP.cell hD (c := 9) (s := 11) (T := 36) (vs := [.int .i64 (ra0), .int .i64 (rb0), .int .i64 (ra1), .int .i64 (rb1)]) (by simp) hxq 1 (by simp)
        obtain ⟨eq2, kq2, rq2⟩ := KpP.cell hD (c := 9) (s := 11) (T := 36) (vs := [.int .i64 (ra0), .int .i64 (rb0), .int .i64 (ra1), .int .i64 (rb1)]) (by simp) hxq 2 (by simp)
        obtain ⟨eq3, kq3, rq3⟩ := KpP.cell hD (c := 9) (s := 11) (T := 36) (vs := [.int .i64 (ra0), .int .i64 (rb0), .int .i64 (ra1), .int .i64 (rb1)]) (by simp) hxq 3 (by simp)
        refine Fx.gives_skip (w' := ((((w'.setCell ⟨gr, 0, none⟩ (.int .i64 (ra0))).setCell ⟨gr, 1, none⟩ (.int .i64 (rb0))).setCell ⟨gr, 2, none⟩ (.int .i64 (ra1))).setCell ⟨gr, 3, none⟩ (.int .i64 (rb1)))) ?_ ?_
        · clear hx hk hD hxq
          go_simp
          try rfl
        · exact KpP.store hD hS (c := 9) (s := 11) (T := 36) (vs := [.int .i64 (ra0), .int .i64 (rb0), .int .i64 (ra1), .int .i64 (rb1)]) (by simp) (by intro m hm e; simp only [List.mem_cons, List.not_mem_nil, or_false] at hm; rcases hm with rfl | rfl <;> first | rfl | (simp at e)) (by intro m hm e; simp only [List.mem_cons, List.not_mem_nil, or_false] at hm; rcases hm with rfl | rfl <;> first | rfl | (simp at e)) hxq (fun w h => h.same (by decide) (by decide))
      simp only [Act.put, List.setIfInBounds_toArray, List.set_cons_zero, List.set_cons_succ]
      refine Fx.WM.nil (by kernel_rfl) ?_
      intro wz hkp
      obtain ⟨hgl_le, hgl⟩ := hkp.end_ (c := 8) (s := 10) (T := 36) (vs := [.int .i64 (la0), .int .i64 (lb0), .int .i64 (la1), .int .i64 (lb1)]) (by simp) (x := gl) (by rfl) (by rfl)
      obtain ⟨hgr_le, hgr⟩ := hkp.end_ (c := 9) (s := 11) (T := 36) (vs := [.int .i64 (ra0), .int .i64 (rb0), .int .i64 (ra1), .int .i64 (rb1)]) (by simp) (x := gr) (by rfl) (by rfl)
      have hT := hkp.two
      have hP := hkp.loc
      have hne : gl ≠ gr := fun e => by have h1 := hkp.inj 8 9 gl (by rfl) (by rw [e]; rfl); exact absurd h1 (by decide)
      exact key gl gr wz ⟨hne, hgl_le, hgr_le, hT, hgl, hgr, hP.end_ (by rfl) (by rfl)⟩
  rintro gl gr w3 ⟨hne, hgl, hgr, hT, hbl, hbr, K', cnt', lg', hP, hG', hKK, hKl, hKr, hcc⟩
  have HP3 := Lib.hid hP
  have HG3 := Lib.hid hG'
  have HKK := Lib.hid hKK
  have HKL := Lib.hid hKl
  have HKR := Lib.hid hKr
  have HCC := Lib.hid hcc
  have hgl2 : w.heap.size + 2 ≤ gl := by omega
  have hgr2 : w.heap.size + 2 ≤ gr := by omega
  clear hP hG' hKK hKl hKr hcc hS
  have HW3 := Lib.hid (show Two gp gm w w3 from HW2.out.trans hT)
  have K0_3 := Lib.hid (hT.blk K0_2.out (by omega) (by omega))
  have K1_3 := Lib.hid (hT.blk K1_2.out (by omega) (by omega))
  have K2_3 := Lib.hid (hT.blk K2_2.out (by omega) (by omega))
  have hz3 := hT.size
  clear K0_2 l0_2 z0_0_2 z0_1_2 z0_2_2 z0_3_2 K1_2 l1_2 z1_0_2 z1_1_2 z1_2_2 z1_3_2 K2_2 l2_2 z2_0_2 z2_1_2 z2_2_2 z2_3_2 z2_4_2
  have l0_3 : w.heap.size < w3.heap.size := K0_3.out.lt
  have z0_0_3 : w3.cell? ⟨w.heap.size, 0, none⟩ = some (.int .i64 (0)) := K0_3.out.cell 0
  have z0_1_3 : w3.cell? ⟨w.heap.size, 1, none⟩ = some (.int .i64 (0)) := K0_3.out.cell 1
  have z0_2_3 : w3.cell? ⟨w.heap.size, 2, none⟩ = some (.int .i64 (0)) := K0_3.out.cell 2
  have z0_3_3 : w3.cell? ⟨w.heap.size, 3, none⟩ = some (.int .i64 (0)) := K0_3.out.cell 3
  have l1_3 : w.heap.size + 1 < w3.heap.size := K1_3.out.lt
  have z1_0_3 : w3.cell? ⟨w.heap.size + 1, 0, none⟩ = some (.int .i64 (0)) := K1_3.out.cell 0
  have z1_1_3 : w3.cell? ⟨w.heap.size + 1, 1, none⟩ = some (.int .i64 (0)) := K1_3.out.cell 1
  have z1_2_3 : w3.cell? ⟨w.heap.size + 1, 2, none⟩ = some (.int .i64 (0)) := K1_3.out.cell 2
  have z1_3_3 : w3.cell? ⟨w.heap.size + 1, 3, none⟩ = some (.int .i64 (0)) := K1_3.out.cell 3
  have l2_3 : rb < w3.heap.size := K2_3.out.lt
  have z2_0_3 : w3.cell? ⟨rb, 0, none⟩ = some (.string r.name) := K2_3.out.cell 0
  have z2_1_3 : w3.cell? ⟨rb, 1, none⟩ = some (.string r.left) := K2_3.out.cell 1
  have z2_2_3 : w3.cell? ⟨rb, 2, none⟩ = some (.string r.right) := K2_3.out.cell 2
  have z2_3_3 : w3.cell? ⟨rb, 3, none⟩ = some (.int .i64 (r.al)) := K2_3.out.cell 3
  have z2_4_3 : w3.cell? ⟨rb, 4, none⟩ = some (.int .i64 (r.ar)) := K2_3.out.cell 4
  have K3_3 := Lib.hid (show Blk w3 (gl) 36 #[.int .i64 (la0), .int .i64 (lb0), .int .i64 (la1), .int .i64 (lb1)] from hbl)
  have l3_3 : gl < w3.heap.size := K3_3.out.lt
  have z3_0_3 : w3.cell? ⟨gl, 0, none⟩ = some (.int .i64 (la0)) := K3_3.out.cell 0
  have z3_1_3 : w3.cell? ⟨gl, 1, none⟩ = some (.int .i64 (lb0)) := K3_3.out.cell 1
  have z3_2_3 : w3.cell? ⟨gl, 2, none⟩ = some (.int .i64 (la1)) := K3_3.out.cell 2
  have z3_3_3 : w3.cell? ⟨gl, 3, none⟩ = some (.int .i64 (lb1)) := K3_3.out.cell 3
  have K4_3 := Lib.hid (show Blk w3 (gr) 36 #[.int .i64 (ra0), .int .i64 (rb0), .int .i64 (ra1), .int .i64 (rb1)] from hbr)
  have l4_3 : gr < w3.heap.size := K4_3.out.lt
  have z4_0_3 : w3.cell? ⟨gr, 0, none⟩ = some (.int .i64 (ra0)) := K4_3.out.cell 0
  have z4_1_3 : w3.cell? ⟨gr, 1, none⟩ = some (.int .i64 (rb0)) := K4_3.out.cell 1
  have z4_2_3 : w3.cell? ⟨gr, 2, none⟩ = some (.int .i64 (ra1)) := K4_3.out.cell 2
  have z4_3_3 : w3.cell? ⟨gr, 3, none⟩ = some (.int .i64 (rb1)) := K4_3.out.cell 3
  clear hT hbl hbr
  have e1 := IntWalk.i64_in (r.al + r.ar) ⟨by omega, by omega⟩
  go_wp2_with fail
  obtain ⟨tt, htt⟩ : ∃ t, smallB r.al (r.al + r.ar) = t := ⟨_, rfl⟩
  have HTT := Lib.hid htt
  clear htt
  have hsm := small_any r.al (r.al + r.ar) w3 (by omega) (by omega) (by omega) (by omega)
  rw [show r.al / (Int.gcd r.al (r.al + r.ar) : Int) = pa from (Prod.mk.inj HP.out).1, show (r.al + r.ar) / (Int.gcd r.al (r.al + r.ar) : Int) = pb from (Prod.mk.inj HP.out).2, HTT.out] at hsm
  refine hsm.mono ?_
  rintro e w4 ⟨rfl, hb⟩
  have hT := Two.of (a := gp) (b := gm) hb
  have HP4 := Lib.hid (HP3.out.below hb (show gp < w3.heap.size by omega))
  have HW4 := Lib.hid (show Two gp gm w w4 from HW3.out.trans hT)
  have K0_4 := Lib.hid (hT.blk K0_3.out (by omega) (by omega))
  have K1_4 := Lib.hid (hT.blk K1_3.out (by omega) (by omega))
  have K2_4 := Lib.hid (hT.blk K2_3.out (by omega) (by omega))
  have K3_4 := Lib.hid (hT.blk K3_3.out (by omega) (by omega))
  have K4_4 := Lib.hid (hT.blk K4_3.out (by omega) (by omega))
  have hz4 := hT.size
  clear K0_3 l0_3 z0_0_3 z0_1_3 z0_2_3 z0_3_3 K1_3 l1_3 z1_0_3 z1_1_3 z1_2_3 z1_3_3 K2_3 l2_3 z2_0_3 z2_1_3 z2_2_3 z2_3_3 z2_4_3 K3_3 l3_3 z3_0_3 z3_1_3 z3_2_3 z3_3_3 K4_3 l4_3 z4_0_3 z4_1_3 z4_2_3 z4_3_3
  have l0_4 : w.heap.size < w4.heap.size := K0_4.out.lt
  have z0_0_4 : w4.cell? ⟨w.heap.size, 0, none⟩ = some (.int .i64 (0)) := K0_4.out.cell 0
  have z0_1_4 : w4.cell? ⟨w.heap.size, 1, none⟩ = some (.int .i64 (0)) := K0_4.out.cell 1
  have z0_2_4 : w4.cell? ⟨w.heap.size, 2, none⟩ = some (.int .i64 (0)) := K0_4.out.cell 2
  have z0_3_4 : w4.cell? ⟨w.heap.size, 3, none⟩ = some (.int .i64 (0)) := K0_4.out.cell 3
  have l1_4 : w.heap.size + 1 < w4.heap.size := K1_4.out.lt
  have z1_0_4 : w4.cell? ⟨w.heap.size + 1, 0, none⟩ = some (.int .i64 (0)) := K1_4.out.cell 0
  have z1_1_4 : w4.cell? ⟨w.heap.size + 1, 1, none⟩ = some (.int .i64 (0)) := K1_4.out.cell 1
  have z1_2_4 : w4.cell? ⟨w.heap.size + 1, 2, none⟩ = some (.int .i64 (0)) := K1_4.out.cell 2
  have z1_3_4 : w4.cell? ⟨w.heap.size + 1, 3, none⟩ = some (.int .i64 (0)) := K1_4.out.cell 3
  have l2_4 : rb < w4.heap.size := K2_4.out.lt
  have z2_0_4 : w4.cell? ⟨rb, 0, none⟩ = some (.string r.name) := K2_4.out.cell 0
  have z2_1_4 : w4.cell? ⟨rb, 1, none⟩ = some (.string r.left) := K2_4.out.cell 1
  have z2_2_4 : w4.cell? ⟨rb, 2, none⟩ = some (.string r.right) := K2_4.out.cell 2
  have z2_3_4 : w4.cell? ⟨rb, 3, none⟩ = some (.int .i64 (r.al)) := K2_4.out.cell 3
  have z2_4_4 : w4.cell? ⟨rb, 4, none⟩ = some (.int .i64 (r.ar)) := K2_4.out.cell 4
  have l3_4 : gl < w4.heap.size := K3_4.out.lt
  have z3_0_4 : w4.cell? ⟨gl, 0, none⟩ = some (.int .i64 (la0)) := K3_4.out.cell 0
  have z3_1_4 : w4.cell? ⟨gl, 1, none⟩ = some (.int .i64 (lb0)) := K3_4.out.cell 1
  have z3_2_4 : w4.cell? ⟨gl, 2, none⟩ = some (.int .i64 (la1)) := K3_4.out.cell 2
  have z3_3_4 : w4.cell? ⟨gl, 3, none⟩ = some (.int .i64 (lb1)) := K3_4.out.cell 3
  have l4_4 : gr < w4.heap.size := K4_4.out.lt
  have z4_0_4 : w4.cell? ⟨gr, 0, none⟩ = some (.int .i64 (ra0)) := K4_4.out.cell 0
  have z4_1_4 : w4.cell? ⟨gr, 1, none⟩ = some (.int .i64 (rb0)) := K4_4.out.cell 1
  have z4_2_4 : w4.cell? ⟨gr, 2, none⟩ = some (.int .i64 (ra1)) := K4_4.out.cell 2
  have z4_3_4 : w4.cell? ⟨gr, 3, none⟩ = some (.int .i64 (rb1)) := K4_4.out.cell 3
  have hgl4 : gl < w4.heap.size := by omega
  have hgr4 : gr < w4.heap.size := by omega
  clear hT hb HP3 HTT e1
  go_upto_region 8 with fail
  have hg4 : w.heap.size + 2 ≤ w4.heap.size := by omega
  generalize hwn : ((w4.alloc (.cells #[.int .i64 (pa), .int .i64 (pb)] 35)).alloc (.cells #[.int .i64 (0), .int .i64 (0), .int .i64 (0), .int .i64 (0)] 36)) = w5
  have hbn : Below w4.heap.size w4 w5 := by rw [← hwn]; repeat' (first | exact Below.refl _ _ | refine below_drewN ?_ _ | refine Below.drew ?_ | refine Below.alloc ?_ (by first | omega | (simp; done) | (simp; omega) | (simp [World.setCell]; omega)) _ | refine Below.setCell ?_ (by first | omega | (simp; done) | (simp; omega)) _)
  have K5_5 := Lib.hid (show Blk w5 (w4.heap.size) 35 #[.int .i64 (pa), .int .i64 (pb)] by rw [← hwn]; repeat' (first | exact Blk.at_ _ (by first | rfl | (simp; done) | (simp; omega)) _ _ | refine Blk.drewN ?_ _ | refine Blk.drew ?_ | refine Blk.alloc ?_ _ | refine Blk.far ?_ (by first | omega | (simp; done) | (simp; omega)) _ | assumption))
  have K6_5 := Lib.hid (show Blk w5 (w4.heap.size + 1) 36 #[.int .i64 (0), .int .i64 (0), .int .i64 (0), .int .i64 (0)] by rw [← hwn]; repeat' (first | exact Blk.at_ _ (by first | rfl | (simp; done) | (simp; omega)) _ _ | refine Blk.drewN ?_ _ | refine Blk.drew ?_ | refine Blk.alloc ?_ _ | refine Blk.far ?_ (by first | omega | (simp; done) | (simp; omega)) _ | assumption))
  have hbT := Two.of (a := gp) (b := gm) hbn
  have HW5 := Lib.hid (show Two gp gm w w5 from HW4.out.trans hbT)
  have K0_5 := Lib.hid (hbT.blk K0_4.out (by omega) (by omega))
  have K1_5 := Lib.hid (hbT.blk K1_4.out (by omega) (by omega))
  have K2_5 := Lib.hid (hbT.blk K2_4.out (by omega) (by omega))
  have K3_5 := Lib.hid (hbT.blk K3_4.out (by omega) (by omega))
  have K4_5 := Lib.hid (hbT.blk K4_4.out (by omega) (by omega))
  have hz5 := hbT.size
  clear K0_4 l0_4 z0_0_4 z0_1_4 z0_2_4 z0_3_4 K1_4 l1_4 z1_0_4 z1_1_4 z1_2_4 z1_3_4 K2_4 l2_4 z2_0_4 z2_1_4 z2_2_4 z2_3_4 z2_4_4 K3_4 l3_4 z3_0_4 z3_1_4 z3_2_4 z3_3_4 K4_4 l4_4 z4_0_4 z4_1_4 z4_2_4 z4_3_4
  have l0_5 : w.heap.size < w5.heap.size := K0_5.out.lt
  have z0_0_5 : w5.cell? ⟨w.heap.size, 0, none⟩ = some (.int .i64 (0)) := K0_5.out.cell 0
  have z0_1_5 : w5.cell? ⟨w.heap.size, 1, none⟩ = some (.int .i64 (0)) := K0_5.out.cell 1
  have z0_2_5 : w5.cell? ⟨w.heap.size, 2, none⟩ = some (.int .i64 (0)) := K0_5.out.cell 2
  have z0_3_5 : w5.cell? ⟨w.heap.size, 3, none⟩ = some (.int .i64 (0)) := K0_5.out.cell 3
  have l1_5 : w.heap.size + 1 < w5.heap.size := K1_5.out.lt
  have z1_0_5 : w5.cell? ⟨w.heap.size + 1, 0, none⟩ = some (.int .i64 (0)) := K1_5.out.cell 0
  have z1_1_5 : w5.cell? ⟨w.heap.size + 1, 1, none⟩ = some (.int .i64 (0)) := K1_5.out.cell 1
  have z1_2_5 : w5.cell? ⟨w.heap.size + 1, 2, none⟩ = some (.int .i64 (0)) := K1_5.out.cell 2
  have z1_3_5 : w5.cell? ⟨w.heap.size + 1, 3, none⟩ = some (.int .i64 (0)) := K1_5.out.cell 3
  have l2_5 : rb < w5.heap.size := K2_5.out.lt
  have z2_0_5 : w5.cell? ⟨rb, 0, none⟩ = some (.string r.name) := K2_5.out.cell 0
  have z2_1_5 : w5.cell? ⟨rb, 1, none⟩ = some (.string r.left) := K2_5.out.cell 1
  have z2_2_5 : w5.cell? ⟨rb, 2, none⟩ = some (.string r.right) := K2_5.out.cell 2
  have z2_3_5 : w5.cell? ⟨rb, 3, none⟩ = some (.int .i64 (r.al)) := K2_5.out.cell 3
  have z2_4_5 : w5.cell? ⟨rb, 4, none⟩ = some (.int .i64 (r.ar)) := K2_5.out.cell 4
  have l3_5 : gl < w5.heap.size := K3_5.out.lt
  have z3_0_5 : w5.cell? ⟨gl, 0, none⟩ = some (.int .i64 (la0)) := K3_5.out.cell 0
  have z3_1_5 : w5.cell? ⟨gl, 1, none⟩ = some (.int .i64 (lb0)) := K3_5.out.cell 1
  have z3_2_5 : w5.cell? ⟨gl, 2, none⟩ = some (.int .i64 (la1)) := K3_5.out.cell 2
  have z3_3_5 : w5.cell? ⟨gl, 3, none⟩ = some (.int .i64 (lb1)) := K3_5.out.cell 3
  have l4_5 : gr < w5.heap.size := K4_5.out.lt
  have z4_0_5 : w5.cell? ⟨gr, 0, none⟩ = some (.int .i64 (ra0)) := K4_5.out.cell 0
  have z4_1_5 : w5.cell? ⟨gr, 1, none⟩ = some (.int .i64 (rb0)) := K4_5.out.cell 1
  have z4_2_5 : w5.cell? ⟨gr, 2, none⟩ = some (.int .i64 (ra1)) := K4_5.out.cell 2
  have z4_3_5 : w5.cell? ⟨gr, 3, none⟩ = some (.int .i64 (rb1)) := K4_5.out.cell 3
  have HN5 := Lib.hid hbn
  clear hwn hbn hbT
  have l5_5 : w4.heap.size < w5.heap.size := K5_5.out.lt
  have z5_0_5 : w5.cell? ⟨w4.heap.size, 0, none⟩ = some (.int .i64 (pa)) := K5_5.out.cell 0
  have z5_1_5 : w5.cell? ⟨w4.heap.size, 1, none⟩ = some (.int .i64 (pb)) := K5_5.out.cell 1
  have l6_5 : w4.heap.size + 1 < w5.heap.size := K6_5.out.lt
  have z6_0_5 : w5.cell? ⟨w4.heap.size + 1, 0, none⟩ = some (.int .i64 (0)) := K6_5.out.cell 0
  have z6_1_5 : w5.cell? ⟨w4.heap.size + 1, 1, none⟩ = some (.int .i64 (0)) := K6_5.out.cell 1
  have z6_2_5 : w5.cell? ⟨w4.heap.size + 1, 2, none⟩ = some (.int .i64 (0)) := K6_5.out.cell 2
  have z6_3_5 : w5.cell? ⟨w4.heap.size + 1, 3, none⟩ = some (.int .i64 (0)) := K6_5.out.cell 3
  have HP5 := Lib.hid (HP4.out.below HN5.out (show gp < w4.heap.size by omega))
  clear HP4
  obtain ⟨lgA, hlgA⟩ : ∃ b, (((lg' || !o10.isSome) || !o20.isSome) || !o30.isSome) = b := ⟨_, rfl⟩
  obtain ⟨lgB, hlgB⟩ : ∃ b, (((lgA || !o11.isSome) || !o21.isSome) || !o31.isSome) = b := ⟨_, rfl⟩
  have HLA := Lib.hid hlgA
  have HLB := Lib.hid hlgB
  clear hlgA hlgB
  go_wp2_with fail
  go_loopw [64] (fun ii wr => ∃ k : Nat, k ≤ 2 ∧ ii = .int .i64 k ∧ Two gp gm w wr ∧ w5.heap.size ≤ wr.heap.size ∧ PivAt l g0 g1 (some ⟨xb, xo, none⟩) n c tb mb top n₀ gm gp K' cnt' (if k = 0 then lg' else if k = 1 then lgA else lgB) wr ∧
    Blk wr w.heap.size 36 #[.int .i64 0, .int .i64 0, .int .i64 0, .int .i64 0] ∧ Blk wr gl 36 #[.int .i64 la0, .int .i64 lb0, .int .i64 la1, .int .i64 lb1] ∧ Blk wr gr 36 #[.int .i64 ra0, .int .i64 rb0, .int .i64 ra1, .int .i64 rb1] ∧ Blk wr w4.heap.size 35 #[.int .i64 pa, .int .i64 pb] ∧
    Blk wr (w4.heap.size + 1) 36 (if k = 0 then #[.int .i64 0, .int .i64 0, .int .i64 0, .int .i64 0] else if k = 1 then #[.int .i64 vx0, .int .i64 vy0, .int .i64 0, .int .i64 0] else #[.int .i64 vx0, .int .i64 vy0, .int .i64 vx1, .int .i64 vy1])) (fun ii _ => 2 - (intOf ii).toNat)
  case atStart => exact ⟨0, by omega, rfl, HW5.out, Nat.le_refl _, HP5.out, K0_5.out, K3_5.out, K4_5.out, K5_5.out, K6_5.out⟩
  case round =>
    obtain ⟨k, hk, hii6, hw6, hs6, hp6, hb0, hb1, hb2, hb3, hb4⟩ := hrel
    obtain ⟨w6, hnm⟩ : ∃ z : World, z = wr := ⟨_, rfl⟩
    subst hnm
    obtain rfl | rfl | rfl : k = 0 ∨ k = 1 ∨ k = 2 := by omega
    
    · have hi6 : _ = Value.int .i64 0 := hii6
      subst hi6
      clear hii6
      have HP6 : Hid (PivAt l g0 g1 (some ⟨xb, xo, none⟩) n c tb mb top n₀ gm gp K' cnt' lg' w6) := Lib.hid hp6
      clear hp6
      have HW6 := Lib.hid hw6
      have K0_6 := Lib.hid (show Blk w6 (w.heap.size) 36 #[.int .i64 (0), .int .i64 (0), .int .i64 (0), .int .i64 (0)] from hb0)
      have K1_6 := Lib.hid (show Blk w6 (gl) 36 #[.int .i64 (la0), .int .i64 (lb0), .int .i64 (la1), .int .i64 (lb1)] from hb1)
      have K2_6 := Lib.hid (show Blk w6 (gr) 36 #[.int .i64 (ra0), .int .i64 (rb0), .int .i64 (ra1), .int .i64 (rb1)] from hb2)
      have K3_6 := Lib.hid (show Blk w6 (w4.heap.size) 35 #[.int .i64 (pa), .int .i64 (pb)] from hb3)
      have K4_6 := Lib.hid (show Blk w6 (w4.heap.size + 1) 36 #[.int .i64 (0), .int .i64 (0), .int .i64 (0), .int .i64 (0)] from hb4)
      clear hw6 hb0 hb1 hb2 hb3 hb4
      have l0_6 : w.heap.size < w6.heap.size := K0_6.out.lt
      have z0_0_6 : w6.cell? ⟨w.heap.size, 0, none⟩ = some (.int .i64 (0)) := K0_6.out.cell 0
      have z0_1_6 : w6.cell? ⟨w.heap.size, 1, none⟩ = some (.int .i64 (0)) := K0_6.out.cell 1
      have z0_2_6 : w6.cell? ⟨w.heap.size, 2, none⟩ = some (.int .i64 (0)) := K0_6.out.cell 2
      have z0_3_6 : w6.cell? ⟨w.heap.size, 3, none⟩ = some (.int .i64 (0)) := K0_6.out.cell 3
      have l1_6 : gl < w6.heap.size := K1_6.out.lt
      have z1_0_6 : w6.cell? ⟨gl, 0, none⟩ = some (.int .i64 (la0)) := K1_6.out.cell 0
      have z1_1_6 : w6.cell? ⟨gl, 1, none⟩ = some (.int .i64 (lb0)) := K1_6.out.cell 1
      have z1_2_6 : w6.cell? ⟨gl, 2, none⟩ = some (.int .i64 (la1)) := K1_6.out.cell 2
      have z1_3_6 : w6.cell? ⟨gl, 3, none⟩ = some (.int .i64 (lb1)) := K1_6.out.cell 3
      have l2_6 : gr < w6.heap.size := K2_6.out.lt
      have z2_0_6 : w6.cell? ⟨gr, 0, none⟩ = some (.int .i64 (ra0)) := K2_6.out.cell 0
      have z2_1_6 : w6.cell? ⟨gr, 1, none⟩ = some (.int .i64 (rb0)) := K2_6.out.cell 1
      have z2_2_6 : w6.cell? ⟨gr, 2, none⟩ = some (.int .i64 (ra1)) := K2_6.out.cell 2
      have z2_3_6 : w6.cell? ⟨gr, 3, none⟩ = some (.int .i64 (rb1)) := K2_6.out.cell 3
      have l3_6 : w4.heap.size < w6.heap.size := K3_6.out.lt
      have z3_0_6 : w6.cell? ⟨w4.heap.size, 0, none⟩ = some (.int .i64 (pa)) := K3_6.out.cell 0
      have z3_1_6 : w6.cell? ⟨w4.heap.size, 1, none⟩ = some (.int .i64 (pb)) := K3_6.out.cell 1
      have l4_6 : w4.heap.size + 1 < w6.heap.size := K4_6.out.lt
      have z4_0_6 : w6.cell? ⟨w4.heap.size + 1, 0, none⟩ = some (.int .i64 (0)) := K4_6.out.cell 0
      have z4_1_6 : w6.cell? ⟨w4.heap.size + 1, 1, none⟩ = some (.int .i64 (0)) := K4_6.out.cell 1
      have z4_2_6 : w6.cell? ⟨w4.heap.size + 1, 2, none⟩ = some (.int .i64 (0)) := K4_6.out.cell 2
      have z4_3_6 : w6.cell? ⟨w4.heap.size + 1, 3, none⟩ = some (.int .i64 (0)) := K4_6.out.cell 3
      have hgp : gp < w6.heap.size := by omega
      have hgm : gm < w6.heap.size := by omega
      go_upto_region 11 with fail
      refine Fx.regionM (fun W g f w' => KpP gp gm (PivL l g0 g1 (some ⟨xb, xo, none⟩) n c tb mb top n₀ gm gp K' cnt' 10 lg' (lg' || !o10.isSome)) [(11, 12, 35, [.int .i64 (ax0), .int .i64 (ay0)])] W g f w') (fun i (x : Nat) => .pointer (some ⟨x, 0, none⟩)) (by kernel_rfl) ?_ ?_
      · intro f hf0
        exact KpP.start ((show PivL l g0 g1 (some ⟨xb, xo, none⟩) n c tb mb top n₀ gm gp K' cnt' 10 lg' (lg' || !o10.isSome) f _ by unfold PivL; rw [hf0 10]; exact HP6.out.below (below_drewN (Below.refl _ _) 1) hgp))
      have hS : StbL w6 (PivL l g0 g1 (some ⟨xb, xo, none⟩) n c tb mb top n₀ gm gp K' cnt' 10 lg' (lg' || !o10.isSome)) := fun f w w' hb h => h.below hb hgp
      first
      | (refine Fx.WM.skip 0 (by rfl) (by kernel_rfl) (by kernel_rfl) (by kernel_rfl) (by rfl) (fun g f w h => h.same (by simp) (h.loc.same (by decide))) ?_; simp only [Act.put, List.setIfInBounds_toArray, List.set_cons_zero, List.set_cons_succ])
      | (refine Fx.WM.val_ 0 ?_ (by rfl) (by kernel_rfl) (by kernel_rfl) (by kernel_rfl) (by rfl) ?_ (fun g f w h => h.same (by simp) (h.loc.same (by decide))) ?_
         rotate_left
         · intro g f w' hx hD hk
           obtain hkp := id hD
           clear hx hk hD hkp
           go_simp
           try rfl
         simp only [Act.put, List.setIfInBounds_toArray, List.set_cons_zero, List.set_cons_succ])
      first
      | (refine Fx.WM.skip 1 (by rfl) (by kernel_rfl) (by kernel_rfl) (by kernel_rfl) (by rfl) (fun g f w h => h.same (by simp) (h.loc.same (by decide))) ?_; simp only [Act.put, List.setIfInBounds_toArray, List.set_cons_zero, List.set_cons_succ])
      | (refine Fx.WM.val_ 1 ?_ (by rfl) (by kernel_rfl) (by kernel_rfl) (by kernel_rfl) (by rfl) ?_ (fun g f w h => h.same (by simp) (h.loc.same (by decide))) ?_
         rotate_left
         · intro g f w' hx hD hk
           obtain hkp := id hD
           clear hx hk hD hkp
           go_simp
           try rfl
         simp only [Act.put, List.setIfInBounds_toArray, List.set_cons_zero, List.set_cons_succ])
      first
      | (refine Fx.WM.skip 2 (by rfl) (by kernel_rfl) (by kernel_rfl) (by kernel_rfl) (by rfl) (fun g f w h => h.same (by simp) (h.loc.same (by decide))) ?_; simp only [Act.put, List.setIfInBounds_toArray, List.set_cons_zero, List.set_cons_succ])
      | (refine Fx.WM.val_ 2 ?_ (by rfl) (by kernel_rfl) (by kernel_rfl) (by kernel_rfl) (by rfl) ?_ (fun g f w h => h.same (by simp) (h.loc.same (by decide))) ?_
         rotate_left
         · intro g f w' hx hD hk
           obtain hkp := id hD
           clear hx hk hD hkp
           go_simp
           try rfl
         simp only [Act.put, List.setIfInBounds_toArray, List.set_cons_zero, List.set_cons_succ])
      first
      | (refine Fx.WM.skip 3 (by rfl) (by kernel_rfl) (by kernel_rfl) (by kernel_rfl) (by rfl) (fun g f w h => h.same (by simp) (h.loc.same (by decide))) ?_; simp only [Act.put, List.setIfInBounds_toArray, List.set_cons_zero, List.set_cons_succ])
      | (refine Fx.WM.val_ 3 ?_ (by rfl) (by kernel_rfl) (by kernel_rfl) (by kernel_rfl) (by rfl) ?_ (fun g f w h => h.same (by simp) (h.loc.same (by decide))) ?_
         rotate_left
         · intro g f w' hx hD hk
           obtain hkp := id hD
           have e0 := (hkp.two.blk K2_6.out (by omega) (by omega)).cell 0
           have e1 := (hkp.two.blk K2_6.out (by omega) (by omega)).cell 1
           clear hx hk hD hkp
           go_simp
           try rfl
         simp only [Act.put, List.setIfInBounds_toArray, List.set_cons_zero, List.set_cons_succ])
      first
      | (refine Fx.WM.skip 4 (by rfl) (by kernel_rfl) (by kernel_rfl) (by kernel_rfl) (by rfl) (fun g f w h => h.same (by simp) (h.loc.same (by decide))) ?_; simp only [Act.put, List.setIfInBounds_toArray, List.set_cons_zero, List.set_cons_succ])
      | (refine Fx.WM.val_ 4 ?_ (by rfl) (by kernel_rfl) (by kernel_rfl) (by kernel_rfl) (by rfl) ?_ (fun g f w h => h.same (by simp) (h.loc.same (by decide))) ?_
         rotate_left
         · intro g f w' hx hD hk
           obtain hkp := id hD
           clear hx hk hD hkp
           go_simp
           try rfl
         simp only [Act.put, List.setIfInBounds_toArray, List.set_cons_zero, List.set_cons_succ])
      first
      | (refine Fx.WM.skip 5 (by rfl) (by kernel_rfl) (by kernel_rfl) (by kernel_rfl) (by rfl) (fun g f w h => h.same (by simp) (h.loc.same (by decide))) ?_; simp only [Act.put, List.setIfInBounds_toArray, List.set_cons_zero, List.set_cons_succ])
      | (refine Fx.WM.val_ 5 ?_ (by rfl) (by kernel_rfl) (by kernel_rfl) (by kernel_rfl) (by rfl) ?_ (fun g f w h => h.same (by simp) (h.loc.same (by decide))) ?_
         rotate_left
         · intro g f w' hx hD hk
           obtain hkp := id hD
           clear hx hk hD hkp
           go_simp
           try rfl
         simp only [Act.put, List.setIfInBounds_toArray, List.set_cons_zero, List.set_cons_succ])
      first
      | (refine Fx.WM.skip 6 (by rfl) (by kernel_rfl) (by kernel_rfl) (by kernel_rfl) (by rfl) (fun g f w h => h.same (by simp) (h.loc.same (by decide))) ?_; simp only [Act.put, List.setIfInBounds_toArray, List.set_cons_zero, List.set_cons_succ])
      | (refine Fx.WM.val_ 6 ?_ (by rfl) (by kernel_rfl) (by kernel_rfl) (by kernel_rfl) (by rfl) ?_ (fun g f w h => h.same (by simp) (h.loc.same (by decide))) ?_
         rotate_left
         · intro g f w' hx hD hk
           obtain hkp := id hD
           have e0 := (hkp.two.blk K1_6.out (by omega) (by omega)).cell 0
           have e1 := (hkp.two.blk K1_6.out (by omega) (by omega)).cell 1
           clear hx hk hD hkp
           go_simp
           try rfl
         simp only [Act.put, List.setIfInBounds_toArray, List.set_cons_zero, List.set_cons_succ])
      refine Fx.WM.call 7 (.tuple #[.agg #[.int .i64 (resV o10).1, .int .i64 (resV o10).2], .int .i64 (resE o10)]) ?_ ?_ (by rfl) (by kernel_rfl) (by kernel_rfl) (by kernel_rfl) (by rfl) ?_ ?_ ?_
      rotate_left 2
      · intro w'
        go_simp
        refine ⟨?_, ?_⟩ <;> rfl
      · intro g f w' hx hD hk
        exact (sub_opt (ra0, rb0) (la0, lb0) o10 FO.out.2.2.1 FO.out.1 O10.out w').mono fun e w'' ⟨he, hb⟩ => ⟨he, hD.call (by simp) hgp hgm (Two.of hb) ((hD.loc.below hb (by have := hD.two.size; omega)).same (by decide))⟩
      simp only [Act.put, List.setIfInBounds_toArray, List.set_cons_zero, List.set_cons_succ]
      first
      | (refine Fx.WM.skip 8 (by rfl) (by kernel_rfl) (by kernel_rfl) (by kernel_rfl) (by rfl) (fun g f w h => h.same (by simp) (h.loc.same (by decide))) ?_; simp only [Act.put, List.setIfInBounds_toArray, List.set_cons_zero, List.set_cons_succ])
      | (refine Fx.WM.val_ 8 ?_ (by rfl) (by kernel_rfl) (by kernel_rfl) (by kernel_rfl) (by rfl) ?_ (fun g f w h => h.same (by simp) (h.loc.same (by decide))) ?_
         rotate_left
         · intro g f w' hx hD hk
           obtain hkp := id hD
           clear hx hk hD hkp
           go_simp
           try rfl
         simp only [Act.put, List.setIfInBounds_toArray, List.set_cons_zero, List.set_cons_succ])
      first
      | (refine Fx.WM.skip 9 (by rfl) (by kernel_rfl) (by kernel_rfl) (by kernel_rfl) (by rfl) (fun g f w h => h.same (by simp) (h.loc.same (by decide))) ?_; simp only [Act.put, List.setIfInBounds_toArray, List.set_cons_zero, List.set_cons_succ])
      | (refine Fx.WM.val_ 9 ?_ (by rfl) (by kernel_rfl) (by kernel_rfl) (by kernel_rfl) (by rfl) ?_ (fun g f w h => h.same (by simp) (h.loc.same (by decide))) ?_
         rotate_left
         · intro g f w' hx hD hk
           obtain hkp := id hD
           clear hx hk hD hkp
           go_simp
           try rfl
         simp only [Act.put, List.setIfInBounds_toArray, List.set_cons_zero, List.set_cons_succ])
      refine Fx.WM.call 10 (.agg #[.int .i64 (ax0), .int .i64 (ay0)]) ?_ ?_ (by rfl) (by kernel_rfl) (by kernel_rfl) (by kernel_rfl) (by rfl) ?_ ?_ ?_
      rotate_left 2
      · intro w'
        go_simp
        refine ⟨?_, ?_⟩ <;> rfl
      · intro g f w' hx hD hk
        exact (PivL.must o10 ax0 ay0 M10.out hD.loc hk.1).mono fun e w'' ⟨he, hT, hL⟩ => ⟨he, hD.call (by simp) hgp hgm hT hL⟩
      simp only [Act.put, List.setIfInBounds_toArray, List.set_cons_zero, List.set_cons_succ]
      refine Fx.WM.choose 11 (by rfl) (by kernel_rfl) (by rfl) ?_ ?_
      · skip
        refine Fx.Chooses.make (by rfl) ?_
        intro f w' hD hk
        refine ⟨w'.heap.size, w'.alloc (.cells #[.int .i64 (0), .int .i64 (0)] 35), ?_, ?_⟩
        · clear hk hD
          go_simp
          try rfl
        · exact hD.make (c := 11) (s := 12) (T := 35) (vs := [.int .i64 (ax0), .int .i64 (ay0)]) (by simp) (by intro m hm e; simp only [List.mem_cons, List.not_mem_nil, or_false] at hm; rcases hm with rfl <;> first | rfl | (simp at e)) (by simp) [.int .i64 (0), .int .i64 (0)] rfl (hk.2.1 12 (by kernel_rfl)) ((hD.loc.below ((Below.refl _ _).alloc (Nat.le_refl _) _) (by have := hD.two.size; omega)).same (by decide))
      intro g14
      simp only [Act.put, List.setIfInBounds_toArray, List.set_cons_zero, List.set_cons_succ]
      refine Fx.WM.eff 12 undef (by rfl) (by kernel_rfl) (by kernel_rfl) (by kernel_rfl) (by rfl) ?_ ?_
      · intro g f w' hx hD hk
        have hxq := hx 11 _ (by rfl)
        obtain ⟨eq0, kq0, rq0⟩ := KpP.cell hD (c := 11) (s := 12) (T := 35) (vs := [.int .i64 (ax0), .int .i64 (ay0)]) (by simp) hxq 0 (by simp)
        obtain ⟨eq1, kq1, rq1⟩ := KpP.cell hD (c := 11) (s := 12) (T := 35) (vs := [.int .i64 (ax0), .int .i64 (ay0)]) (by simp) hxq 1 (by simp)
        refine Fx.gives_skip (w' := ((w'.setCell ⟨g14, 0, none⟩ (.int .i64 (ax0))).setCell ⟨g14, 1, none⟩ (.int .i64 (ay0)))) ?_ ?_
        · clear hx hk hD hxq
          go_simp
          try rfl
        · exact KpP.store hD hS (c := 11) (s := 12) (T := 35) (vs := [.int .i64 (ax0), .int .i64 (ay0)]) (by simp) (by intro m hm e; simp only [List.mem_cons, List.not_mem_nil, or_false] at hm; rcases hm with rfl <;> first | rfl | (simp at e)) (by intro m hm e; simp only [List.mem_cons, List.not_mem_nil, or_false] at hm; rcases hm with rfl <;> first | rfl | (simp at e)) hxq (fun w h => h.same (by decide))
      simp only [Act.put, List.setIfInBounds_toArray, List.set_cons_zero, List.set_cons_succ]
      refine Fx.WM.nil (by kernel_rfl) ?_
      intro wz hkp
      obtain ⟨h14_le, h14⟩ := hkp.end_ (c := 11) (s := 12) (T := 35) (vs := [.int .i64 (ax0), .int .i64 (ay0)]) (by simp) (x := g14) (by rfl) (by rfl)
      have hT := hkp.two
      have hP := hkp.loc
      have HP7 : Hid (PivAt l g0 g1 (some ⟨xb, xo, none⟩) n c tb mb top n₀ gm gp K' cnt' (lg' || !o10.isSome) wz) := Lib.hid hP
      have hg14 : w.heap.size + 2 ≤ g14 := by omega
      clear hP hkp hS HP6
      obtain ⟨w7, hnm⟩ : ∃ z : World, z = wz := ⟨_, rfl⟩
      subst hnm
      have HW7 := Lib.hid (show Two gp gm w w7 from HW6.out.trans hT)
      have K0_7 := Lib.hid (hT.blk K0_6.out (by omega) (by omega))
      have K1_7 := Lib.hid (hT.blk K1_6.out (by omega) (by omega))
      have K2_7 := Lib.hid (hT.blk K2_6.out (by omega) (by omega))
      have K3_7 := Lib.hid (hT.blk K3_6.out (by omega) (by omega))
      have K4_7 := Lib.hid (hT.blk K4_6.out (by omega) (by omega))
      have hz7 := hT.size
      clear K0_6 l0_6 z0_0_6 z0_1_6 z0_2_6 z0_3_6 K1_6 l1_6 z1_0_6 z1_1_6 z1_2_6 z1_3_6 K2_6 l2_6 z2_0_6 z2_1_6 z2_2_6 z2_3_6 K3_6 l3_6 z3_0_6 z3_1_6 K4_6 l4_6 z4_0_6 z4_1_6 z4_2_6 z4_3_6
      have l0_7 : w.heap.size < w7.heap.size := K0_7.out.lt
      have z0_0_7 : w7.cell? ⟨w.heap.size, 0, none⟩ = some (.int .i64 (0)) := K0_7.out.cell 0
      have z0_1_7 : w7.cell? ⟨w.heap.size, 1, none⟩ = some (.int .i64 (0)) := K0_7.out.cell 1
      have z0_2_7 : w7.cell? ⟨w.heap.size, 2, none⟩ = some (.int .i64 (0)) := K0_7.out.cell 2
      have z0_3_7 : w7.cell? ⟨w.heap.size, 3, none⟩ = some (.int .i64 (0)) := K0_7.out.cell 3
      have l1_7 : gl < w7.heap.size := K1_7.out.lt
      have z1_0_7 : w7.cell? ⟨gl, 0, none⟩ = some (.int .i64 (la0)) := K1_7.out.cell 0
      have z1_1_7 : w7.cell? ⟨gl, 1, none⟩ = some (.int .i64 (lb0)) := K1_7.out.cell 1
      have z1_2_7 : w7.cell? ⟨gl, 2, none⟩ = some (.int .i64 (la1)) := K1_7.out.cell 2
      have z1_3_7 : w7.cell? ⟨gl, 3, none⟩ = some (.int .i64 (lb1)) := K1_7.out.cell 3
      have l2_7 : gr < w7.heap.size := K2_7.out.lt
      have z2_0_7 : w7.cell? ⟨gr, 0, none⟩ = some (.int .i64 (ra0)) := K2_7.out.cell 0
      have z2_1_7 : w7.cell? ⟨gr, 1, none⟩ = some (.int .i64 (rb0)) := K2_7.out.cell 1
      have z2_2_7 : w7.cell? ⟨gr, 2, none⟩ = some (.int .i64 (ra1)) := K2_7.out.cell 2
      have z2_3_7 : w7.cell? ⟨gr, 3, none⟩ = some (.int .i64 (rb1)) := K2_7.out.cell 3
      have l3_7 : w4.heap.size < w7.heap.size := K3_7.out.lt
      have z3_0_7 : w7.cell? ⟨w4.heap.size, 0, none⟩ = some (.int .i64 (pa)) := K3_7.out.cell 0
      have z3_1_7 : w7.cell? ⟨w4.heap.size, 1, none⟩ = some (.int .i64 (pb)) := K3_7.out.cell 1
      have l4_7 : w4.heap.size + 1 < w7.heap.size := K4_7.out.lt
      have z4_0_7 : w7.cell? ⟨w4.heap.size + 1, 0, none⟩ = some (.int .i64 (0)) := K4_7.out.cell 0
      have z4_1_7 : w7.cell? ⟨w4.heap.size + 1, 1, none⟩ = some (.int .i64 (0)) := K4_7.out.cell 1
      have z4_2_7 : w7.cell? ⟨w4.heap.size + 1, 2, none⟩ = some (.int .i64 (0)) := K4_7.out.cell 2
      have z4_3_7 : w7.cell? ⟨w4.heap.size + 1, 3, none⟩ = some (.int .i64 (0)) := K4_7.out.cell 3
      have K5_7 := Lib.hid (show Blk w7 (g14) 35 #[.int .i64 (ax0), .int .i64 (ay0)] from h14)
      have l5_7 : g14 < w7.heap.size := K5_7.out.lt
      have z5_0_7 : w7.cell? ⟨g14, 0, none⟩ = some (.int .i64 (ax0)) := K5_7.out.cell 0
      have z5_1_7 : w7.cell? ⟨g14, 1, none⟩ = some (.int .i64 (ay0)) := K5_7.out.cell 1
      clear hT h14
      go_wp2_with fail
      refine (mul_opt (ax0, ay0) (pa, pb) o20 FO.out.2.2.2.2.2.1 FO.out.2.2.2.2.1 O20.out w7).mono ?_
      rintro e w8 ⟨rfl, hb⟩
      have hT := Two.of (a := gp) (b := gm) hb
      have HP8 := Lib.hid (HP7.out.below hb (show gp < w7.heap.size by omega))
      have HW8 := Lib.hid (show Two gp gm w w8 from HW7.out.trans hT)
      have K0_8 := Lib.hid (hT.blk K0_7.out (by omega) (by omega))
      have K1_8 := Lib.hid (hT.blk K1_7.out (by omega) (by omega))
      have K2_8 := Lib.hid (hT.blk K2_7.out (by omega) (by omega))
      have K3_8 := Lib.hid (hT.blk K3_7.out (by omega) (by omega))
      have K4_8 := Lib.hid (hT.blk K4_7.out (by omega) (by omega))
      have K5_8 := Lib.hid (hT.blk K5_7.out (by omega) (by omega))
      have hz8 := hT.size
      clear K0_7 l0_7 z0_0_7 z0_1_7 z0_2_7 z0_3_7 K1_7 l1_7 z1_0_7 z1_1_7 z1_2_7 z1_3_7 K2_7 l2_7 z2_0_7 z2_1_7 z2_2_7 z2_3_7 K3_7 l3_7 z3_0_7 z3_1_7 K4_7 l4_7 z4_0_7 z4_1_7 z4_2_7 z4_3_7 K5_7 l5_7 z5_0_7 z5_1_7
      have l0_8 : w.heap.size < w8.heap.size := K0_8.out.lt
      have z0_0_8 : w8.cell? ⟨w.heap.size, 0, none⟩ = some (.int .i64 (0)) := K0_8.out.cell 0
      have z0_1_8 : w8.cell? ⟨w.heap.size, 1, none⟩ = some (.int .i64 (0)) := K0_8.out.cell 1
      have z0_2_8 : w8.cell? ⟨w.heap.size, 2, none⟩ = some (.int .i64 (0)) := K0_8.out.cell 2
      have z0_3_8 : w8.cell? ⟨w.heap.size, 3, none⟩ = some (.int .i64 (0)) := K0_8.out.cell 3
      have l1_8 : gl < w8.heap.size := K1_8.out.lt
      have z1_0_8 : w8.cell? ⟨gl, 0, none⟩ = some (.int .i64 (la0)) := K1_8.out.cell 0
      have z1_1_8 : w8.cell? ⟨gl, 1, none⟩ = some (.int .i64 (lb0)) := K1_8.out.cell 1
      have z1_2_8 : w8.cell? ⟨gl, 2, none⟩ = some (.int .i64 (la1)) := K1_8.out.cell 2
      have z1_3_8 : w8.cell? ⟨gl, 3, none⟩ = some (.int .i64 (lb1)) := K1_8.out.cell 3
      have l2_8 : gr < w8.heap.size := K2_8.out.lt
      have z2_0_8 : w8.cell? ⟨gr, 0, none⟩ = some (.int .i64 (ra0)) := K2_8.out.cell 0
      have z2_1_8 : w8.cell? ⟨gr, 1, none⟩ = some (.int .i64 (rb0)) := K2_8.out.cell 1
      have z2_2_8 : w8.cell? ⟨gr, 2, none⟩ = some (.int .i64 (ra1)) := K2_8.out.cell 2
      have z2_3_8 : w8.cell? ⟨gr, 3, none⟩ = some (.int .i64 (rb1)) := K2_8.out.cell 3
      have l3_8 : w4.heap.size < w8.heap.size := K3_8.out.lt
      have z3_0_8 : w8.cell? ⟨w4.heap.size, 0, none⟩ = some (.int .i64 (pa)) := K3_8.out.cell 0
      have z3_1_8 : w8.cell? ⟨w4.heap.size, 1, none⟩ = some (.int .i64 (pb)) := K3_8.out.cell 1
      have l4_8 : w4.heap.size + 1 < w8.heap.size := K4_8.out.lt
      have z4_0_8 : w8.cell? ⟨w4.heap.size + 1, 0, none⟩ = some (.int .i64 (0)) := K4_8.out.cell 0
      have z4_1_8 : w8.cell? ⟨w4.heap.size + 1, 1, none⟩ = some (.int .i64 (0)) := K4_8.out.cell 1
      have z4_2_8 : w8.cell? ⟨w4.heap.size + 1, 2, none⟩ = some (.int .i64 (0)) := K4_8.out.cell 2
      have z4_3_8 : w8.cell? ⟨w4.heap.size + 1, 3, none⟩ = some (.int .i64 (0)) := K4_8.out.cell 3
      have l5_8 : g14 < w8.heap.size := K5_8.out.lt
      have z5_0_8 : w8.cell? ⟨g14, 0, none⟩ = some (.int .i64 (ax0)) := K5_8.out.cell 0
      have z5_1_8 : w8.cell? ⟨g14, 1, none⟩ = some (.int .i64 (ay0)) := K5_8.out.cell 1
      clear hT hb HP7
      go_wp2_with fail
      refine (must_opt o20 wx0 wy0 M20.out w8 HP8.out).mono ?_
      rintro e w9 ⟨rfl, hT, hP⟩
      have HP9 := Lib.hid hP
      have HW9 := Lib.hid (show Two gp gm w w9 from HW8.out.trans hT)
      have K0_9 := Lib.hid (hT.blk K0_8.out (by omega) (by omega))
      have K1_9 := Lib.hid (hT.blk K1_8.out (by omega) (by omega))
      have K2_9 := Lib.hid (hT.blk K2_8.out (by omega) (by omega))
      have K3_9 := Lib.hid (hT.blk K3_8.out (by omega) (by omega))
      have K4_9 := Lib.hid (hT.blk K4_8.out (by omega) (by omega))
      have K5_9 := Lib.hid (hT.blk K5_8.out (by omega) (by omega))
      have hz9 := hT.size
      clear K0_8 l0_8 z0_0_8 z0_1_8 z0_2_8 z0_3_8 K1_8 l1_8 z1_0_8 z1_1_8 z1_2_8 z1_3_8 K2_8 l2_8 z2_0_8 z2_1_8 z2_2_8 z2_3_8 K3_8 l3_8 z3_0_8 z3_1_8 K4_8 l4_8 z4_0_8 z4_1_8 z4_2_8 z4_3_8 K5_8 l5_8 z5_0_8 z5_1_8
      have l0_9 : w.heap.size < w9.heap.size := K0_9.out.lt
      have z0_0_9 : w9.cell? ⟨w.heap.size, 0, none⟩ = some (.int .i64 (0)) := K0_9.out.cell 0
      have z0_1_9 : w9.cell? ⟨w.heap.size, 1, none⟩ = some (.int .i64 (0)) := K0_9.out.cell 1
      have z0_2_9 : w9.cell? ⟨w.heap.size, 2, none⟩ = some (.int .i64 (0)) := K0_9.out.cell 2
      have z0_3_9 : w9.cell? ⟨w.heap.size, 3, none⟩ = some (.int .i64 (0)) := K0_9.out.cell 3
      have l1_9 : gl < w9.heap.size := K1_9.out.lt
      have z1_0_9 : w9.cell? ⟨gl, 0, none⟩ = some (.int .i64 (la0)) := K1_9.out.cell 0
      have z1_1_9 : w9.cell? ⟨gl, 1, none⟩ = some (.int .i64 (lb0)) := K1_9.out.cell 1
      have z1_2_9 : w9.cell? ⟨gl, 2, none⟩ = some (.int .i64 (la1)) := K1_9.out.cell 2
      have z1_3_9 : w9.cell? ⟨gl, 3, none⟩ = some (.int .i64 (lb1)) := K1_9.out.cell 3
      have l2_9 : gr < w9.heap.size := K2_9.out.lt
      have z2_0_9 : w9.cell? ⟨gr, 0, none⟩ = some (.int .i64 (ra0)) := K2_9.out.cell 0
      have z2_1_9 : w9.cell? ⟨gr, 1, none⟩ = some (.int .i64 (rb0)) := K2_9.out.cell 1
      have z2_2_9 : w9.cell? ⟨gr, 2, none⟩ = some (.int .i64 (ra1)) := K2_9.out.cell 2
      have z2_3_9 : w9.cell? ⟨gr, 3, none⟩ = some (.int .i64 (rb1)) := K2_9.out.cell 3
      have l3_9 : w4.heap.size < w9.heap.size := K3_9.out.lt
      have z3_0_9 : w9.cell? ⟨w4.heap.size, 0, none⟩ = some (.int .i64 (pa)) := K3_9.out.cell 0
      have z3_1_9 : w9.cell? ⟨w4.heap.size, 1, none⟩ = some (.int .i64 (pb)) := K3_9.out.cell 1
      have l4_9 : w4.heap.size + 1 < w9.heap.size := K4_9.out.lt
      have z4_0_9 : w9.cell? ⟨w4.heap.size + 1, 0, none⟩ = some (.int .i64 (0)) := K4_9.out.cell 0
      have z4_1_9 : w9.cell? ⟨w4.heap.size + 1, 1, none⟩ = some (.int .i64 (0)) := K4_9.out.cell 1
      have z4_2_9 : w9.cell? ⟨w4.heap.size + 1, 2, none⟩ = some (.int .i64 (0)) := K4_9.out.cell 2
      have z4_3_9 : w9.cell? ⟨w4.heap.size + 1, 3, none⟩ = some (.int .i64 (0)) := K4_9.out.cell 3
      have l5_9 : g14 < w9.heap.size := K5_9.out.lt
      have z5_0_9 : w9.cell? ⟨g14, 0, none⟩ = some (.int .i64 (ax0)) := K5_9.out.cell 0
      have z5_1_9 : w9.cell? ⟨g14, 1, none⟩ = some (.int .i64 (ay0)) := K5_9.out.cell 1
      clear hT hP HP8
      have hg9 : w.heap.size + 2 ≤ w9.heap.size := by omega
      go_upto_region 13 with fail
      generalize hwn : (w9.alloc (.cells #[.int .i64 (wx0), .int .i64 (wy0)] 35)) = w10
      have hbn : Below w9.heap.size w9 w10 := by rw [← hwn]; repeat' (first | exact Below.refl _ _ | refine below_drewN ?_ _ | refine Below.drew ?_ | refine Below.alloc ?_ (by first | omega | (simp; done) | (simp; omega) | (simp [World.setCell]; omega)) _ | refine Below.setCell ?_ (by first | omega | (simp; done) | (simp; omega)) _)
      have K6_10 := Lib.hid (show Blk w10 (w9.heap.size) 35 #[.int .i64 (wx0), .int .i64 (wy0)] by rw [← hwn]; repeat' (first | exact Blk.at_ _ (by first | rfl | (simp; done) | (simp; omega)) _ _ | refine Blk.drewN ?_ _ | refine Blk.drew ?_ | refine Blk.alloc ?_ _ | refine Blk.far ?_ (by first | omega | (simp; done) | (simp; omega)) _ | assumption))
      have hbT := Two.of (a := gp) (b := gm) hbn
      have HW10 := Lib.hid (show Two gp gm w w10 from HW9.out.trans hbT)
      have K0_10 := Lib.hid (hbT.blk K0_9.out (by omega) (by omega))
      have K1_10 := Lib.hid (hbT.blk K1_9.out (by omega) (by omega))
      have K2_10 := Lib.hid (hbT.blk K2_9.out (by omega) (by omega))
      have K3_10 := Lib.hid (hbT.blk K3_9.out (by omega) (by omega))
      have K4_10 := Lib.hid (hbT.blk K4_9.out (by omega) (by omega))
      have K5_10 := Lib.hid (hbT.blk K5_9.out (by omega) (by omega))
      have hz10 := hbT.size
      clear K0_9 l0_9 z0_0_9 z0_1_9 z0_2_9 z0_3_9 K1_9 l1_9 z1_0_9 z1_1_9 z1_2_9 z1_3_9 K2_9 l2_9 z2_0_9 z2_1_9 z2_2_9 z2_3_9 K3_9 l3_9 z3_0_9 z3_1_9 K4_9 l4_9 z4_0_9 z4_1_9 z4_2_9 z4_3_9 K5_9 l5_9 z5_0_9 z5_1_9
      have l0_10 : w.heap.size < w10.heap.size := K0_10.out.lt
      have z0_0_10 : w10.cell? ⟨w.heap.size, 0, none⟩ = some (.int .i64 (0)) := K0_10.out.cell 0
      have z0_1_10 : w10.cell? ⟨w.heap.size, 1, none⟩ = some (.int .i64 (0)) := K0_10.out.cell 1
      have z0_2_10 : w10.cell? ⟨w.heap.size, 2, none⟩ = some (.int .i64 (0)) := K0_10.out.cell 2
      have z0_3_10 : w10.cell? ⟨w.heap.size, 3, none⟩ = some (.int .i64 (0)) := K0_10.out.cell 3
      have l1_10 : gl < w10.heap.size := K1_10.out.lt
      have z1_0_10 : w10.cell? ⟨gl, 0, none⟩ = some (.int .i64 (la0)) := K1_10.out.cell 0
      have z1_1_10 : w10.cell? ⟨gl, 1, none⟩ = some (.int .i64 (lb0)) := K1_10.out.cell 1
      have z1_2_10 : w10.cell? ⟨gl, 2, none⟩ = some (.int .i64 (la1)) := K1_10.out.cell 2
      have z1_3_10 : w10.cell? ⟨gl, 3, none⟩ = some (.int .i64 (lb1)) := K1_10.out.cell 3
      have l2_10 : gr < w10.heap.size := K2_10.out.lt
      have z2_0_10 : w10.cell? ⟨gr, 0, none⟩ = some (.int .i64 (ra0)) := K2_10.out.cell 0
      have z2_1_10 : w10.cell? ⟨gr, 1, none⟩ = some (.int .i64 (rb0)) := K2_10.out.cell 1
      have z2_2_10 : w10.cell? ⟨gr, 2, none⟩ = some (.int .i64 (ra1)) := K2_10.out.cell 2
      have z2_3_10 : w10.cell? ⟨gr, 3, none⟩ = some (.int .i64 (rb1)) := K2_10.out.cell 3
      have l3_10 : w4.heap.size < w10.heap.size := K3_10.out.lt
      have z3_0_10 : w10.cell? ⟨w4.heap.size, 0, none⟩ = some (.int .i64 (pa)) := K3_10.out.cell 0
      have z3_1_10 : w10.cell? ⟨w4.heap.size, 1, none⟩ = some (.int .i64 (pb)) := K3_10.out.cell 1
      have l4_10 : w4.heap.size + 1 < w10.heap.size := K4_10.out.lt
      have z4_0_10 : w10.cell? ⟨w4.heap.size + 1, 0, none⟩ = some (.int .i64 (0)) := K4_10.out.cell 0
      have z4_1_10 : w10.cell? ⟨w4.heap.size + 1, 1, none⟩ = some (.int .i64 (0)) := K4_10.out.cell 1
      have z4_2_10 : w10.cell? ⟨w4.heap.size + 1, 2, none⟩ = some (.int .i64 (0)) := K4_10.out.cell 2
      have z4_3_10 : w10.cell? ⟨w4.heap.size + 1, 3, none⟩ = some (.int .i64 (0)) := K4_10.out.cell 3
      have l5_10 : g14 < w10.heap.size := K5_10.out.lt
      have z5_0_10 : w10.cell? ⟨g14, 0, none⟩ = some (.int .i64 (ax0)) := K5_10.out.cell 0
      have z5_1_10 : w10.cell? ⟨g14, 1, none⟩ = some (.int .i64 (ay0)) := K5_10.out.cell 1
      have HN10 := Lib.hid hbn
      clear hwn hbn hbT
      have l6_10 : w9.heap.size < w10.heap.size := K6_10.out.lt
      have z6_0_10 : w10.cell? ⟨w9.heap.size, 0, none⟩ = some (.int .i64 (wx0)) := K6_10.out.cell 0
      have z6_1_10 : w10.cell? ⟨w9.heap.size, 1, none⟩ = some (.int .i64 (wy0)) := K6_10.out.cell 1
      have HP10 := Lib.hid (HP9.out.below HN10.out (show gp < w9.heap.size by omega))
      clear HP9
      have hgp : gp < w10.heap.size := by omega
      have hgm : gm < w10.heap.size := by omega
      refine Fx.region (fun f w' => (f 11 = false → Two gp gm w10 w' ∧ PivL l g0 g1 (some ⟨xb, xo, none⟩) n c tb mb top n₀ gm gp K' cnt' 9 ((lg' || !o10.isSome) || !o20.isSome) (((lg' || !o10.isSome) || !o20.isSome) || !o30.isSome) f w') ∧ (f 11 = true → ∃ v, Two gp gm w10 v ∧ PivAt l g0 g1 (some ⟨xb, xo, none⟩) n c tb mb top n₀ gm gp K' cnt' (((lg' || !o10.isSome) || !o20.isSome) || !o30.isSome) v ∧ w' = (v.setCell ⟨w4.heap.size + 1, 0, none⟩ (.int .i64 (vx0))).setCell ⟨w4.heap.size + 1, 1, none⟩ (.int .i64 (vy0)))) (by kernel_rfl) (by kernel_rfl) ?_ ?_
      · intro f hf0
        exact ⟨fun _ => ⟨Two.of (below_drewN (Below.refl _ _) 1), (by unfold PivL; rw [hf0 9]; exact HP10.out.below (below_drewN (Below.refl _ _) 1) hgp)⟩, fun h => by rw [hf0 11] at h; cases h⟩
      repeat (first
        | (refine Fx.skip_ (by rfl) (fun f w h => h) ?_; simp only [Act.put, List.setIfInBounds_toArray, List.set_cons_zero, List.set_cons_succ])
        | (refine Fx.val_ ?_ (by rfl) ?_ (fun f w h => h) ?_
           rotate_left
           · intro f w' hD hk
             obtain ⟨jw, jr⟩ := id hD
             clear hk hD jw jr
             go_simp
             try rfl
           simp only [Act.put, List.setIfInBounds_toArray, List.set_cons_zero, List.set_cons_succ]))
      refine Fx.val_ ?_ (by rfl) ?_ (fun f w h => h) ?_
      rotate_left
      · intro f w' hD hk
        obtain ⟨jw, jr⟩ := id hD
        have jw := jw (hk.2.1 11 (by kernel_rfl))
        have e0 := (jw.1.blk K1_10.out (by omega) (by omega)).cell 0
        have e1 := (jw.1.blk K1_10.out (by omega) (by omega)).cell 1
        clear hk hD jw jr
        go_simp
        try rfl
      simp only [Act.put, List.setIfInBounds_toArray, List.set_cons_zero, List.set_cons_succ]
      refine Fx.val_ ?_ (by rfl) ?_ (fun f w h => h) ?_
      rotate_left
      · intro f w' hD hk
        obtain ⟨jw, jr⟩ := id hD
        have jw := jw (hk.2.1 11 (by kernel_rfl))
        have e0 := (jw.1.blk K6_10.out (by omega) (by omega)).cell 0
        have e1 := (jw.1.blk K6_10.out (by omega) (by omega)).cell 1
        clear hk hD jw jr
        go_simp
        try rfl
      simp only [Act.put, List.setIfInBounds_toArray, List.set_cons_zero, List.set_cons_succ]
      refine Fx.call_ (.tuple #[.agg #[.int .i64 (resV o30).1, .int .i64 (resV o30).2], .int .i64 (resE o30)]) ?_ ?_ (by rfl) ?_ ?_ ?_
      rotate_left 2
      · intro w'
        go_simp
        refine ⟨?_, ?_⟩ <;> rfl
      · intro f w' hD hk
        have j2 := hD.1 (hk.2.1 11 (by kernel_rfl))
        exact (add_opt (la0, lb0) (wx0, wy0) o30 FO.out.1 FO.out.2.2.2.2.2.2.1 O30.out w').mono fun e w'' ⟨he, hb⟩ => ⟨he, fun _ => ⟨j2.1.lay hb, (PivL.below j2.2 hb (by have := j2.1.size; omega)).same (by decide)⟩, fun h => absurd ((hk.2.1 11 (by kernel_rfl)).symm.trans h) (by decide)⟩
      simp only [Act.put, List.setIfInBounds_toArray, List.set_cons_zero, List.set_cons_succ]
      repeat (first
        | (refine Fx.skip_ (by rfl) (fun f w h => h) ?_; simp only [Act.put, List.setIfInBounds_toArray, List.set_cons_zero, List.set_cons_succ])
        | (refine Fx.val_ ?_ (by rfl) ?_ (fun f w h => h) ?_
           rotate_left
           · intro f w' hD hk
             obtain ⟨jw, jr⟩ := id hD
             clear hk hD jw jr
             go_simp
             try rfl
           simp only [Act.put, List.setIfInBounds_toArray, List.set_cons_zero, List.set_cons_succ]))
      refine Fx.call_ (.agg #[.int .i64 (vx0), .int .i64 (vy0)]) ?_ ?_ (by rfl) ?_ ?_ ?_
      rotate_left 2
      · intro w'
        go_simp
        refine ⟨?_, ?_⟩ <;> rfl
      · intro f w' hD hk
        have j2 := hD.1 (hk.2.1 11 (by kernel_rfl))
        exact (PivL.must o30 vx0 vy0 M30.out j2.2 hk.1).mono fun e w'' ⟨he, hT, hL⟩ => ⟨he, fun _ => ⟨j2.1.trans hT, hL⟩, fun h => absurd ((hk.2.1 11 (by kernel_rfl)).symm.trans h) (by decide)⟩
      simp only [Act.put, List.setIfInBounds_toArray, List.set_cons_zero, List.set_cons_succ]
      repeat (first
        | (refine Fx.skip_ (by rfl) (fun f w h => h) ?_; simp only [Act.put, List.setIfInBounds_toArray, List.set_cons_zero, List.set_cons_succ])
        | (refine Fx.val_ ?_ (by rfl) ?_ (fun f w h => h) ?_
           rotate_left
           · intro f w' hD hk
             obtain ⟨jw, jr⟩ := id hD
             clear hk hD jw jr
             go_simp
             try rfl
           simp only [Act.put, List.setIfInBounds_toArray, List.set_cons_zero, List.set_cons_succ]))
      refine Fx.store_ (fun w' => ((w'.setCell ⟨w4.heap.size + 1, 0, none⟩ (.int .i64 (vx0))).setCell ⟨w4.heap.size + 1, 1, none⟩ (.int .i64 (vy0)))) (by rfl) ?_ ?_ ?_
      · intro f w' hD hk
        obtain ⟨jw, jr⟩ := id hD
        have jw := jw hk.1
        have q0 := (jw.1.blk K4_10.out (by omega) (by omega)).cell 0
        have q1 := (jw.1.blk K4_10.out (by omega) (by omega)).frozen 0
        have q2 := (jw.1.blk K4_10.out (by omega) (by omega)).cell 1
        have q3 := (jw.1.blk K4_10.out (by omega) (by omega)).frozen 1
        clear hk hD jw jr
        go_simp
      · intro f w' hD hk
        obtain ⟨jw, jr⟩ := id hD
        have jw := jw hk.1
        exact ⟨fun h => by simp [Fx.add] at h, fun _ => ⟨w', jw.1, (by have h := jw.2; unfold PivL at h; rw [hk.2.2.1 9 (by kernel_rfl)] at h; exact h), rfl⟩⟩
      simp only [Act.put, List.setIfInBounds_toArray, List.set_cons_zero, List.set_cons_succ]
      refine Fx.nil_ ?_
      intro f wz hall hD
      obtain ⟨v, hT, hP, hw⟩ := hD.2 (hall 11 (by simp))
      clear hall hD
      have hTT : Hid (Two gp gm w wz) := by rw [hw]; exact Lib.hid (((HW10.out.trans hT).set (p := ⟨w4.heap.size + 1, 0, none⟩) (by show w.heap.size ≤ w4.heap.size + 1; omega) _).set (p := ⟨w4.heap.size + 1, 1, none⟩) (by show w.heap.size ≤ w4.heap.size + 1; omega) _)
      have hPP : Hid (PivAt l g0 g1 (some ⟨xb, xo, none⟩) n c tb mb top n₀ gm gp K' cnt' lgA wz) := by
        rw [HLA.out] at hP
        rw [hw]
        exact Lib.hid (hP.below (((Below.refl (gp + 1) v).setCell (p := ⟨w4.heap.size + 1, 0, none⟩) (by show gp + 1 ≤ w4.heap.size + 1; omega) _).setCell (p := ⟨w4.heap.size + 1, 1, none⟩) (by show gp + 1 ≤ w4.heap.size + 1; omega) _) (Nat.lt_succ_self _))
      have k0 : Hid (Blk wz w.heap.size 36 #[.int .i64 0, .int .i64 0, .int .i64 0, .int .i64 0]) := by rw [hw]; exact Lib.hid (((hT.blk K0_10.out (by omega) (by omega)).far (p := ⟨w4.heap.size + 1, 0, none⟩) (by show w.heap.size ≠ w4.heap.size + 1; omega) _).far (p := ⟨w4.heap.size + 1, 1, none⟩) (by show w.heap.size ≠ w4.heap.size + 1; omega) _)
      have k1 : Hid (Blk wz gl 36 #[.int .i64 la0, .int .i64 lb0, .int .i64 la1, .int .i64 lb1]) := by rw [hw]; exact Lib.hid (((hT.blk K1_10.out (by omega) (by omega)).far (p := ⟨w4.heap.size + 1, 0, none⟩) (by show gl ≠ w4.heap.size + 1; omega) _).far (p := ⟨w4.heap.size + 1, 1, none⟩) (by show gl ≠ w4.heap.size + 1; omega) _)
      have k2 : Hid (Blk wz gr 36 #[.int .i64 ra0, .int .i64 rb0, .int .i64 ra1, .int .i64 rb1]) := by rw [hw]; exact Lib.hid (((hT.blk K2_10.out (by omega) (by omega)).far (p := ⟨w4.heap.size + 1, 0, none⟩) (by show gr ≠ w4.heap.size + 1; omega) _).far (p := ⟨w4.heap.size + 1, 1, none⟩) (by show gr ≠ w4.heap.size + 1; omega) _)
      have k3 : Hid (Blk wz w4.heap.size 35 #[.int .i64 pa, .int .i64 pb]) := by rw [hw]; exact Lib.hid (((hT.blk K3_10.out (by omega) (by omega)).far (p := ⟨w4.heap.size + 1, 0, none⟩) (by show w4.heap.size ≠ w4.heap.size + 1; omega) _).far (p := ⟨w4.heap.size + 1, 1, none⟩) (by show w4.heap.size ≠ w4.heap.size + 1; omega) _)
      have k4 : Hid (Blk wz (w4.heap.size + 1) 36 #[.int .i64 vx0, .int .i64 vy0, .int .i64 0, .int .i64 0]) := by
        have h := ((hT.blk K4_10.out (by omega) (by omega)).set_ 0 (.int .i64 vx0)).set_ 1 (.int .i64 vy0)
        rw [hw]
        exact Lib.hid (by simpa using h)
      have hsz : w5.heap.size ≤ wz.heap.size := by
        have h := hT.size
        rw [hw]
        simp only [World.setCell, Array.size_modify]
        omega
      clear hT hP hw
      go_wp2
      go_roundw
      case rel => exact ⟨0 + 1, by omega, by go_num, hTT.out, hsz, hPP.out, k0.out, k1.out, k2.out, k3.out, k4.out⟩
      case measure => simp [intOf]
    
    
    · have hi6 : _ = Value.int .i64 1 := hii6
      subst hi6
      clear hii6
      have HP6 : Hid (PivAt l g0 g1 (some ⟨xb, xo, none⟩) n c tb mb top n₀ gm gp K' cnt' lgA w6) := Lib.hid hp6
      clear hp6
      have HW6 := Lib.hid hw6
      have K0_6 := Lib.hid (show Blk w6 (w.heap.size) 36 #[.int .i64 (0), .int .i64 (0), .int .i64 (0), .int .i64 (0)] from hb0)
      have K1_6 := Lib.hid (show Blk w6 (gl) 36 #[.int .i64 (la0), .int .i64 (lb0), .int .i64 (la1), .int .i64 (lb1)] from hb1)
      have K2_6 := Lib.hid (show Blk w6 (gr) 36 #[.int .i64 (ra0), .int .i64 (rb0), .int .i64 (ra1), .int .i64 (rb1)] from hb2)
      have K3_6 := Lib.hid (show Blk w6 (w4.heap.size) 35 #[.int .i64 (pa), .int .i64 (pb)] from hb3)
      have K4_6 := Lib.hid (show Blk w6 (w4.heap.size + 1) 36 #[.int .i64 (vx0), .int .i64 (vy0), .int .i64 (0), .int .i64 (0)] from hb4)
      clear hw6 hb0 hb1 hb2 hb3 hb4
      have l0_6 : w.heap.size < w6.heap.size := K0_6.out.lt
      have z0_0_6 : w6.cell? ⟨w.heap.size, 0, none⟩ = some (.int .i64 (0)) := K0_6.out.cell 0
      have z0_1_6 : w6.cell? ⟨w.heap.size, 1, none⟩ = some (.int .i64 (0)) := K0_6.out.cell 1
      have z0_2_6 : w6.cell? ⟨w.heap.size, 2, none⟩ = some (.int .i64 (0)) := K0_6.out.cell 2
      have z0_3_6 : w6.cell? ⟨w.heap.size, 3, none⟩ = some (.int .i64 (0)) := K0_6.out.cell 3
      have l1_6 : gl < w6.heap.size := K1_6.out.lt
      have z1_0_6 : w6.cell? ⟨gl, 0, none⟩ = some (.int .i64 (la0)) := K1_6.out.cell 0
      have z1_1_6 : w6.cell? ⟨gl, 1, none⟩ = some (.int .i64 (lb0)) := K1_6.out.cell 1
      have z1_2_6 : w6.cell? ⟨gl, 2, none⟩ = some (.int .i64 (la1)) := K1_6.out.cell 2
      have z1_3_6 : w6.cell? ⟨gl, 3, none⟩ = some (.int .i64 (lb1)) := K1_6.out.cell 3
      have l2_6 : gr < w6.heap.size := K2_6.out.lt
      have z2_0_6 : w6.cell? ⟨gr, 0, none⟩ = some (.int .i64 (ra0)) := K2_6.out.cell 0
      have z2_1_6 : w6.cell? ⟨gr, 1, none⟩ = some (.int .i64 (rb0)) := K2_6.out.cell 1
      have z2_2_6 : w6.cell? ⟨gr, 2, none⟩ = some (.int .i64 (ra1)) := K2_6.out.cell 2
      have z2_3_6 : w6.cell? ⟨gr, 3, none⟩ = some (.int .i64 (rb1)) := K2_6.out.cell 3
      have l3_6 : w4.heap.size < w6.heap.size := K3_6.out.lt
      have z3_0_6 : w6.cell? ⟨w4.heap.size, 0, none⟩ = some (.int .i64 (pa)) := K3_6.out.cell 0
      have z3_1_6 : w6.cell? ⟨w4.heap.size, 1, none⟩ = some (.int .i64 (pb)) := K3_6.out.cell 1
      have l4_6 : w4.heap.size + 1 < w6.heap.size := K4_6.out.lt
      have z4_0_6 : w6.cell? ⟨w4.heap.size + 1, 0, none⟩ = some (.int .i64 (vx0)) := K4_6.out.cell 0
      have z4_1_6 : w6.cell? ⟨w4.heap.size + 1, 1, none⟩ = some (.int .i64 (vy0)) := K4_6.out.cell 1
      have z4_2_6 : w6.cell? ⟨w4.heap.size + 1, 2, none⟩ = some (.int .i64 (0)) := K4_6.out.cell 2
      have z4_3_6 : w6.cell? ⟨w4.heap.size + 1, 3, none⟩ = some (.int .i64 (0)) := K4_6.out.cell 3
      have hgp : gp < w6.heap.size := by omega
      have hgm : gm < w6.heap.size := by omega
      go_upto_region 11 with fail
      refine Fx.regionM (fun W g f w' => KpP gp gm (PivL l g0 g1 (some ⟨xb, xo, none⟩) n c tb mb top n₀ gm gp K' cnt' 10 lgA (lgA || !o11.isSome)) [(11, 12, 35, [.int .i64 (ax1), .int .i64 (ay1)])] W g f w') (fun i (x : Nat) => .pointer (some ⟨x, 0, none⟩)) (by kernel_rfl) ?_ ?_
      · intro f hf0
        exact KpP.start ((show PivL l g0 g1 (some ⟨xb, xo, none⟩) n c tb mb top n₀ gm gp K' cnt' 10 lgA (lgA || !o11.isSome) f _ by unfold PivL; rw [hf0 10]; exact HP6.out.below (below_drewN (Below.refl _ _) 1) hgp))
      have hS : StbL w6 (PivL l g0 g1 (some ⟨xb, xo, none⟩) n c tb mb top n₀ gm gp K' cnt' 10 lgA (lgA || !o11.isSome)) := fun f w w' hb h => h.below hb hgp
      first
      | (refine Fx.WM.skip 0 (by rfl) (by kernel_rfl) (by kernel_rfl) (by kernel_rfl) (by rfl) (fun g f w h => h.same (by simp) (h.loc.same (by decide))) ?_; simp only [Act.put, List.setIfInBounds_toArray, List.set_cons_zero, List.set_cons_succ])
      | (refine Fx.WM.val_ 0 ?_ (by rfl) (by kernel_rfl) (by kernel_rfl) (by kernel_rfl) (by rfl) ?_ (fun g f w h => h.same (by simp) (h.loc.same (by decide))) ?_
         rotate_left
         · intro g f w' hx hD hk
           obtain hkp := id hD
           clear hx hk hD hkp
           go_simp
           try rfl
         simp only [Act.put, List.setIfInBounds_toArray, List.set_cons_zero, List.set_cons_succ])
      first
      | (refine Fx.WM.skip 1 (by rfl) (by kernel_rfl) (by kernel_rfl) (by kernel_rfl) (by rfl) (fun g f w h => h.same (by simp) (h.loc.same (by decide))) ?_; simp only [Act.put, List.setIfInBounds_toArray, List.set_cons_zero, List.set_cons_succ])
      | (refine Fx.WM.val_ 1 ?_ (by rfl) (by kernel_rfl) (by kernel_rfl) (by kernel_rfl) (by rfl) ?_ (fun g f w h => h.same (by simp) (h.loc.same (by decide))) ?_
         rotate_left
         · intro g f w' hx hD hk
           obtain hkp := id hD
           clear hx hk hD hkp
           go_simp
           try rfl
         simp only [Act.put, List.setIfInBounds_toArray, List.set_cons_zero, List.set_cons_succ])
      first
      | (refine Fx.WM.skip 2 (by rfl) (by kernel_rfl) (by kernel_rfl) (by kernel_rfl) (by rfl) (fun g f w h => h.same (by simp) (h.loc.same (by decide))) ?_; simp only [Act.put, List.setIfInBounds_toArray, List.set_cons_zero, List.set_cons_succ])
      | (refine Fx.WM.val_ 2 ?_ (by rfl) (by kernel_rfl) (by kernel_rfl) (by kernel_rfl) (by rfl) ?_ (fun g f w h => h.same (by simp) (h.loc.same (by decide))) ?_
         rotate_left
         · intro g f w' hx hD hk
           obtain hkp := id hD
           clear hx hk hD hkp
           go_simp
           try rfl
         simp only [Act.put, List.setIfInBounds_toArray, List.set_cons_zero, List.set_cons_succ])
      first
      | (refine Fx.WM.skip 3 (by rfl) (by kernel_rfl) (by kernel_rfl) (by kernel_rfl) (by rfl) (fun g f w h => h.same (by simp) (h.loc.same (by decide))) ?_; simp only [Act.put, List.setIfInBounds_toArray, List.set_cons_zero, List.set_cons_succ])
      | (refine Fx.WM.val_ 3 ?_ (by rfl) (by kernel_rfl) (by kernel_rfl) (by kernel_rfl) (by rfl) ?_ (fun g f w h => h.same (by simp) (h.loc.same (by decide))) ?_
         rotate_left
         · intro g f w' hx hD hk
           obtain hkp := id hD
           have e0 := (hkp.two.blk K2_6.out (by omega) (by omega)).cell 2
           have e1 := (hkp.two.blk K2_6.out (by omega) (by omega)).cell 3
           clear hx hk hD hkp
           go_simp
           try rfl
         simp only [Act.put, List.setIfInBounds_toArray, List.set_cons_zero, List.set_cons_succ])
      first
      | (refine Fx.WM.skip 4 (by rfl) (by kernel_rfl) (by kernel_rfl) (by kernel_rfl) (by rfl) (fun g f w h => h.same (by simp) (h.loc.same (by decide))) ?_; simp only [Act.put, List.setIfInBounds_toArray, List.set_cons_zero, List.set_cons_succ])
      | (refine Fx.WM.val_ 4 ?_ (by rfl) (by kernel_rfl) (by kernel_rfl) (by kernel_rfl) (by rfl) ?_ (fun g f w h => h.same (by simp) (h.loc.same (by decide))) ?_
         rotate_left
         · intro g f w' hx hD hk
           obtain hkp := id hD
           clear hx hk hD hkp
           go_simp
           try rfl
         simp only [Act.put, List.setIfInBounds_toArray, List.set_cons_zero, List.set_cons_succ])
      first
      | (refine Fx.WM.skip 5 (by rfl) (by kernel_rfl) (by kernel_rfl) (by kernel_rfl) (by rfl) (fun g f w h => h.same (by simp) (h.loc.same (by decide))) ?_; simp only [Act.put, List.setIfInBounds_toArray, List.set_cons_zero, List.set_cons_succ])
      | (refine Fx.WM.val_ 5 ?_ (by rfl) (by kernel_rfl) (by kernel_rfl) (by kernel_rfl) (by rfl) ?_ (fun g f w h => h.same (by simp) (h.loc.same (by decide))) ?_
         rotate_left
         · intro g f w' hx hD hk
           obtain hkp := id hD
           clear hx hk hD hkp
           go_simp
           try rfl
         simp only [Act.put, List.setIfInBounds_toArray, List.set_cons_zero, List.set_cons_succ])
      first
      | (refine Fx.WM.skip 6 (by rfl) (by kernel_rfl) (by kernel_rfl) (by kernel_rfl) (by rfl) (fun g f w h => h.same (by simp) (h.loc.same (by decide))) ?_; simp only [Act.put, List.setIfInBounds_toArray, List.set_cons_zero, List.set_cons_succ])
      | (refine Fx.WM.val_ 6 ?_ (by rfl) (by kernel_rfl) (by kernel_rfl) (by kernel_rfl) (by rfl) ?_ (fun g f w h => h.same (by simp) (h.loc.same (by decide))) ?_
         rotate_left
         · intro g f w' hx hD hk
           obtain hkp := id hD
           have e0 := (hkp.two.blk K1_6.out (by omega) (by omega)).cell 2
           have e1 := (hkp.two.blk K1_6.out (by omega) (by omega)).cell 3
           clear hx hk hD hkp
           go_simp
           try rfl
         simp only [Act.put, List.setIfInBounds_toArray, List.set_cons_zero, List.set_cons_succ])
      refine Fx.WM.call 7 (.tuple #[.agg #[.int .i64 (resV o11).1, .int .i64 (resV o11).2], .int .i64 (resE o11)]) ?_ ?_ (by rfl) (by kernel_rfl) (by kernel_rfl) (by kernel_rfl) (by rfl) ?_ ?_ ?_
      rotate_left 2
      · intro w'
        go_simp
        refine ⟨?_, ?_⟩ <;> rfl
      · intro g f w' hx hD hk
        exact (sub_opt (ra1, rb1) (la1, lb1) o11 FO.out.2.2.2.1 FO.out.2.1 O11.out w').mono fun e w'' ⟨he, hb⟩ => ⟨he, hD.call (by simp) hgp hgm (Two.of hb) ((hD.loc.below hb (by have := hD.two.size; omega)).same (by decide))⟩
      simp only [Act.put, List.setIfInBounds_toArray, List.set_cons_zero, List.set_cons_succ]
      first
      | (refine Fx.WM.skip 8 (by rfl) (by kernel_rfl) (by kernel_rfl) (by kernel_rfl) (by rfl) (fun g f w h => h.same (by simp) (h.loc.same (by decide))) ?_; simp only [Act.put, List.setIfInBounds_toArray, List.set_cons_zero, List.set_cons_succ])
      | (refine Fx.WM.val_ 8 ?_ (by rfl) (by kernel_rfl) (by kernel_rfl) (by kernel_rfl) (by rfl) ?_ (fun g f w h => h.same (by simp) (h.loc.same (by decide))) ?_
         rotate_left
         · intro g f w' hx hD hk
           obtain hkp := id hD
           clear hx hk hD hkp
           go_simp
           try rfl
         simp only [Act.put, List.setIfInBounds_toArray, List.set_cons_zero, List.set_cons_succ])
      first
      | (refine Fx.WM.skip 9 (by rfl) (by kernel_rfl) (by kernel_rfl) (by kernel_rfl) (by rfl) (fun g f w h => h.same (by simp) (h.loc.same (by decide))) ?_; simp only [Act.put, List.setIfInBounds_toArray, List.set_cons_zero, List.set_cons_succ])
      | (refine Fx.WM.val_ 9 ?_ (by rfl) (by kernel_rfl) (by kernel_rfl) (by kernel_rfl) (by rfl) ?_ (fun g f w h => h.same (by simp) (h.loc.same (by decide))) ?_
         rotate_left
         · intro g f w' hx hD hk
           obtain hkp := id hD
           clear hx hk hD hkp
           go_simp
           try rfl
         simp only [Act.put, List.setIfInBounds_toArray, List.set_cons_zero, List.set_cons_succ])
      refine Fx.WM.call 10 (.agg #[.int .i64 (ax1), .int .i64 (ay1)]) ?_ ?_ (by rfl) (by kernel_rfl) (by kernel_rfl) (by kernel_rfl) (by rfl) ?_ ?_ ?_
      rotate_left 2
      · intro w'
        go_simp
        refine ⟨?_, ?_⟩ <;> rfl
      · intro g f w' hx hD hk
        exact (PivL.must o11 ax1 ay1 M11.out hD.loc hk.1).mono fun e w'' ⟨he, hT, hL⟩ => ⟨he, hD.call (by simp) hgp hgm hT hL⟩
      simp only [Act.put, List.setIfInBounds_toArray, List.set_cons_zero, List.set_cons_succ]
      refine Fx.WM.choose 11 (by rfl) (by kernel_rfl) (by rfl) ?_ ?_
      · skip
        refine Fx.Chooses.make (by rfl) ?_
        intro f w' hD hk
        refine ⟨w'.heap.size, w'.alloc (.cells #[.int .i64 (0), .int .i64 (0)] 35), ?_, ?_⟩
        · clear hk hD
          go_simp
          try rfl
        · exact hD.make (c := 11) (s := 12) (T := 35) (vs := [.int .i64 (ax1), .int .i64 (ay1)]) (by simp) (by intro m hm e; simp only [List.mem_cons, List.not_mem_nil, or_false] at hm; rcases hm with rfl <;> first | rfl | (simp at e)) (by simp) [.int .i64 (0), .int .i64 (0)] rfl (hk.2.1 12 (by kernel_rfl)) ((hD.loc.below ((Below.refl _ _).alloc (Nat.le_refl _) _) (by have := hD.two.size; omega)).same (by decide))
      intro g14
      simp only [Act.put, List.setIfInBounds_toArray, List.set_cons_zero, List.set_cons_succ]
      refine Fx.WM.eff 12 undef (by rfl) (by kernel_rfl) (by kernel_rfl) (by kernel_rfl) (by rfl) ?_ ?_
      · intro g f w' hx hD hk
        have hxq := hx 11 _ (by rfl)
        obtain ⟨eq0, kq0, rq0⟩ := KpP.cell hD (c := 11) (s := 12) (T := 35) (vs := [.int .i64 (ax1), .int .i64 (ay1)]) (by simp) hxq 0 (by simp)
        obtain ⟨eq1, kq1, rq1⟩ := KpP.cell hD (c := 11) (s := 12) (T := 35) (vs := [.int .i64 (ax1), .int .i64 (ay1)]) (by simp) hxq 1 (by simp)
        refine Fx.gives_skip (w' := ((w'.setCell ⟨g14, 0, none⟩ (.int .i64 (ax1))).setCell ⟨g14, 1, none⟩ (.int .i64 (ay1)))) ?_ ?_
        · clear hx hk hD hxq
          go_simp
          try rfl
        · exact KpP.store hD hS (c := 11) (s := 12) (T := 35) (vs := [.int .i64 (ax1), .int .i64 (ay1)]) (by simp) (by intro m hm e; simp only [List.mem_cons, List.not_mem_nil, or_false] at hm; rcases hm with rfl <;> first | rfl | (simp at e)) (by intro m hm e; simp only [List.mem_cons, List.not_mem_nil, or_false] at hm; rcases hm with rfl <;> first | rfl | (simp at e)) hxq (fun w h => h.same (by decide))
      simp only [Act.put, List.setIfInBounds_toArray, List.set_cons_zero, List.set_cons_succ]
      refine Fx.WM.nil (by kernel_rfl) ?_
      intro wz hkp
      obtain ⟨h14_le, h14⟩ := hkp.end_ (c := 11) (s := 12) (T := 35) (vs := [.int .i64 (ax1), .int .i64 (ay1)]) (by simp) (x := g14) (by rfl) (by rfl)
      have hT := hkp.two
      have hP := hkp.loc
      have HP7 : Hid (PivAt l g0 g1 (some ⟨xb, xo, none⟩) n c tb mb top n₀ gm gp K' cnt' (lgA || !o11.isSome) wz) := Lib.hid hP
      have hg14 : w.heap.size + 2 ≤ g14 := by omega
      clear hP hkp hS HP6
      obtain ⟨w7, hnm⟩ : ∃ z : World, z = wz := ⟨_, rfl⟩
      subst hnm
      have HW7 := Lib.hid (show Two gp gm w w7 from HW6.out.trans hT)
      have K0_7 := Lib.hid (hT.blk K0_6.out (by omega) (by omega))
      have K1_7 := Lib.hid (hT.blk K1_6.out (by omega) (by omega))
      have K2_7 := Lib.hid (hT.blk K2_6.out (by omega) (by omega))
      have K3_7 := Lib.hid (hT.blk K3_6.out (by omega) (by omega))
      have K4_7 := Lib.hid (hT.blk K4_6.out (by omega) (by omega))
      have hz7 := hT.size
      clear K0_6 l0_6 z0_0_6 z0_1_6 z0_2_6 z0_3_6 K1_6 l1_6 z1_0_6 z1_1_6 z1_2_6 z1_3_6 K2_6 l2_6 z2_0_6 z2_1_6 z2_2_6 z2_3_6 K3_6 l3_6 z3_0_6 z3_1_6 K4_6 l4_6 z4_0_6 z4_1_6 z4_2_6 z4_3_6
      have l0_7 : w.heap.size < w7.heap.size := K0_7.out.lt
      have z0_0_7 : w7.cell? ⟨w.heap.size, 0, none⟩ = some (.int .i64 (0)) := K0_7.out.cell 0
      have z0_1_7 : w7.cell? ⟨w.heap.size, 1, none⟩ = some (.int .i64 (0)) := K0_7.out.cell 1
      have z0_2_7 : w7.cell? ⟨w.heap.size, 2, none⟩ = some (.int .i64 (0)) := K0_7.out.cell 2
      have z0_3_7 : w7.cell? ⟨w.heap.size, 3, none⟩ = some (.int .i64 (0)) := K0_7.out.cell 3
      have l1_7 : gl < w7.heap.size := K1_7.out.lt
      have z1_0_7 : w7.cell? ⟨gl, 0, none⟩ = some (.int .i64 (la0)) := K1_7.out.cell 0
      have z1_1_7 : w7.cell? ⟨gl, 1, none⟩ = some (.int .i64 (lb0)) := K1_7.out.cell 1
      have z1_2_7 : w7.cell? ⟨gl, 2, none⟩ = some (.int .i64 (la1)) := K1_7.out.cell 2
      have z1_3_7 : w7.cell? ⟨gl, 3, none⟩ = some (.int .i64 (lb1)) := K1_7.out.cell 3
      have l2_7 : gr < w7.heap.size := K2_7.out.lt
      have z2_0_7 : w7.cell? ⟨gr, 0, none⟩ = some (.int .i64 (ra0)) := K2_7.out.cell 0
      have z2_1_7 : w7.cell? ⟨gr, 1, none⟩ = some (.int .i64 (rb0)) := K2_7.out.cell 1
      have z2_2_7 : w7.cell? ⟨gr, 2, none⟩ = some (.int .i64 (ra1)) := K2_7.out.cell 2
      have z2_3_7 : w7.cell? ⟨gr, 3, none⟩ = some (.int .i64 (rb1)) := K2_7.out.cell 3
      have l3_7 : w4.heap.size < w7.heap.size := K3_7.out.lt
      have z3_0_7 : w7.cell? ⟨w4.heap.size, 0, none⟩ = some (.int .i64 (pa)) := K3_7.out.cell 0
      have z3_1_7 : w7.cell? ⟨w4.heap.size, 1, none⟩ = some (.int .i64 (pb)) := K3_7.out.cell 1
      have l4_7 : w4.heap.size + 1 < w7.heap.size := K4_7.out.lt
      have z4_0_7 : w7.cell? ⟨w4.heap.size + 1, 0, none⟩ = some (.int .i64 (vx0)) := K4_7.out.cell 0
      have z4_1_7 : w7.cell? ⟨w4.heap.size + 1, 1, none⟩ = some (.int .i64 (vy0)) := K4_7.out.cell 1
      have z4_2_7 : w7.cell? ⟨w4.heap.size + 1, 2, none⟩ = some (.int .i64 (0)) := K4_7.out.cell 2
      have z4_3_7 : w7.cell? ⟨w4.heap.size + 1, 3, none⟩ = some (.int .i64 (0)) := K4_7.out.cell 3
      have K5_7 := Lib.hid (show Blk w7 (g14) 35 #[.int .i64 (ax1), .int .i64 (ay1)] from h14)
      have l5_7 : g14 < w7.heap.size := K5_7.out.lt
      have z5_0_7 : w7.cell? ⟨g14, 0, none⟩ = some (.int .i64 (ax1)) := K5_7.out.cell 0
      have z5_1_7 : w7.cell? ⟨g14, 1, none⟩ = some (.int .i64 (ay1)) := K5_7.out.cell 1
      clear hT h14
      go_wp2_with fail
      refine (mul_opt (ax1, ay1) (pa, pb) o21 FO.out.2.2.2.2.2.2.2.1 FO.out.2.2.2.2.1 O21.out w7).mono ?_
      rintro e w8 ⟨rfl, hb⟩
      have hT := Two.of (a := gp) (b := gm) hb
      have HP8 := Lib.hid (HP7.out.below hb (show gp < w7.heap.size by omega))
      have HW8 := Lib.hid (show Two gp gm w w8 from HW7.out.trans hT)
      have K0_8 := Lib.hid (hT.blk K0_7.out (by omega) (by omega))
      have K1_8 := Lib.hid (hT.blk K1_7.out (by omega) (by omega))
      have K2_8 := Lib.hid (hT.blk K2_7.out (by omega) (by omega))
      have K3_8 := Lib.hid (hT.blk K3_7.out (by omega) (by omega))
      have K4_8 := Lib.hid (hT.blk K4_7.out (by omega) (by omega))
      have K5_8 := Lib.hid (hT.blk K5_7.out (by omega) (by omega))
      have hz8 := hT.size
      clear K0_7 l0_7 z0_0_7 z0_1_7 z0_2_7 z0_3_7 K1_7 l1_7 z1_0_7 z1_1_7 z1_2_7 z1_3_7 K2_7 l2_7 z2_0_7 z2_1_7 z2_2_7 z2_3_7 K3_7 l3_7 z3_0_7 z3_1_7 K4_7 l4_7 z4_0_7 z4_1_7 z4_2_7 z4_3_7 K5_7 l5_7 z5_0_7 z5_1_7
      have l0_8 : w.heap.size < w8.heap.size := K0_8.out.lt
      have z0_0_8 : w8.cell? ⟨w.heap.size, 0, none⟩ = some (.int .i64 (0)) := K0_8.out.cell 0
      have z0_1_8 : w8.cell? ⟨w.heap.size, 1, none⟩ = some (.int .i64 (0)) := K0_8.out.cell 1
      have z0_2_8 : w8.cell? ⟨w.heap.size, 2, none⟩ = some (.int .i64 (0)) := K0_8.out.cell 2
      have z0_3_8 : w8.cell? ⟨w.heap.size, 3, none⟩ = some (.int .i64 (0)) := K0_8.out.cell 3
      have l1_8 : gl < w8.heap.size := K1_8.out.lt
      have z1_0_8 : w8.cell? ⟨gl, 0, none⟩ = some (.int .i64 (la0)) := K1_8.out.cell 0
      have z1_1_8 : w8.cell? ⟨gl, 1, none⟩ = some (.int .i64 (lb0)) := K1_8.out.cell 1
      have z1_2_8 : w8.cell? ⟨gl, 2, none⟩ = some (.int .i64 (la1)) := K1_8.out.cell 2
      have z1_3_8 : w8.cell? ⟨gl, 3, none⟩ = some (.int .i64 (lb1)) := K1_8.out.cell 3
      have l2_8 : gr < w8.heap.size := K2_8.out.lt
      have z2_0_8 : w8.cell? ⟨gr, 0, none⟩ = some (.int .i64 (ra0)) := K2_8.out.cell 0
      have z2_1_8 : w8.cell? ⟨gr, 1, none⟩ = some (.int .i64 (rb0)) := K2_8.out.cell 1
      have z2_2_8 : w8.cell? ⟨gr, 2, none⟩ = some (.int .i64 (ra1)) := K2_8.out.cell 2
      have z2_3_8 : w8.cell? ⟨gr, 3, none⟩ = some (.int .i64 (rb1)) := K2_8.out.cell 3
      have l3_8 : w4.heap.size < w8.heap.size := K3_8.out.lt
      have z3_0_8 : w8.cell? ⟨w4.heap.size, 0, none⟩ = some (.int .i64 (pa)) := K3_8.out.cell 0
      have z3_1_8 : w8.cell? ⟨w4.heap.size, 1, none⟩ = some (.int .i64 (pb)) := K3_8.out.cell 1
      have l4_8 : w4.heap.size + 1 < w8.heap.size := K4_8.out.lt
      have z4_0_8 : w8.cell? ⟨w4.heap.size + 1, 0, none⟩ = some (.int .i64 (vx0)) := K4_8.out.cell 0
      have z4_1_8 : w8.cell? ⟨w4.heap.size + 1, 1, none⟩ = some (.int .i64 (vy0)) := K4_8.out.cell 1
      have z4_2_8 : w8.cell? ⟨w4.heap.size + 1, 2, none⟩ = some (.int .i64 (0)) := K4_8.out.cell 2
      have z4_3_8 : w8.cell? ⟨w4.heap.size + 1, 3, none⟩ = some (.int .i64 (0)) := K4_8.out.cell 3
      have l5_8 : g14 < w8.heap.size := K5_8.out.lt
      have z5_0_8 : w8.cell? ⟨g14, 0, none⟩ = some (.int .i64 (ax1)) := K5_8.out.cell 0
      have z5_1_8 : w8.cell? ⟨g14, 1, none⟩ = some (.int .i64 (ay1)) := K5_8.out.cell 1
      clear hT hb HP7
      go_wp2_with fail
      refine (must_opt o21 wx1 wy1 M21.out w8 HP8.out).mono ?_
      rintro e w9 ⟨rfl, hT, hP⟩
      have HP9 := Lib.hid hP
      have HW9 := Lib.hid (show Two gp gm w w9 from HW8.out.trans hT)
      have K0_9 := Lib.hid (hT.blk K0_8.out (by omega) (by omega))
      have K1_9 := Lib.hid (hT.blk K1_8.out (by omega) (by omega))
      have K2_9 := Lib.hid (hT.blk K2_8.out (by omega) (by omega))
      have K3_9 := Lib.hid (hT.blk K3_8.out (by omega) (by omega))
      have K4_9 := Lib.hid (hT.blk K4_8.out (by omega) (by omega))
      have K5_9 := Lib.hid (hT.blk K5_8.out (by omega) (by omega))
      have hz9 := hT.size
      clear K0_8 l0_8 z0_0_8 z0_1_8 z0_2_8 z0_3_8 K1_8 l1_8 z1_0_8 z1_1_8 z1_2_8 z1_3_8 K2_8 l2_8 z2_0_8 z2_1_8 z2_2_8 z2_3_8 K3_8 l3_8 z3_0_8 z3_1_8 K4_8 l4_8 z4_0_8 z4_1_8 z4_2_8 z4_3_8 K5_8 l5_8 z5_0_8 z5_1_8
      have l0_9 : w.heap.size < w9.heap.size := K0_9.out.lt
      have z0_0_9 : w9.cell? ⟨w.heap.size, 0, none⟩ = some (.int .i64 (0)) := K0_9.out.cell 0
      have z0_1_9 : w9.cell? ⟨w.heap.size, 1, none⟩ = some (.int .i64 (0)) := K0_9.out.cell 1
      have z0_2_9 : w9.cell? ⟨w.heap.size, 2, none⟩ = some (.int .i64 (0)) := K0_9.out.cell 2
      have z0_3_9 : w9.cell? ⟨w.heap.size, 3, none⟩ = some (.int .i64 (0)) := K0_9.out.cell 3
      have l1_9 : gl < w9.heap.size := K1_9.out.lt
      have z1_0_9 : w9.cell? ⟨gl, 0, none⟩ = some (.int .i64 (la0)) := K1_9.out.cell 0
      have z1_1_9 : w9.cell? ⟨gl, 1, none⟩ = some (.int .i64 (lb0)) := K1_9.out.cell 1
      have z1_2_9 : w9.cell? ⟨gl, 2, none⟩ = some (.int .i64 (la1)) := K1_9.out.cell 2
      have z1_3_9 : w9.cell? ⟨gl, 3, none⟩ = some (.int .i64 (lb1)) := K1_9.out.cell 3
      have l2_9 : gr < w9.heap.size := K2_9.out.lt
      have z2_0_9 : w9.cell? ⟨gr, 0, none⟩ = some (.int .i64 (ra0)) := K2_9.out.cell 0
      have z2_1_9 : w9.cell? ⟨gr, 1, none⟩ = some (.int .i64 (rb0)) := K2_9.out.cell 1
      have z2_2_9 : w9.cell? ⟨gr, 2, none⟩ = some (.int .i64 (ra1)) := K2_9.out.cell 2
      have z2_3_9 : w9.cell? ⟨gr, 3, none⟩ = some (.int .i64 (rb1)) := K2_9.out.cell 3
      have l3_9 : w4.heap.size < w9.heap.size := K3_9.out.lt
      have z3_0_9 : w9.cell? ⟨w4.heap.size, 0, none⟩ = some (.int .i64 (pa)) := K3_9.out.cell 0
      have z3_1_9 : w9.cell? ⟨w4.heap.size, 1, none⟩ = some (.int .i64 (pb)) := K3_9.out.cell 1
      have l4_9 : w4.heap.size + 1 < w9.heap.size := K4_9.out.lt
      have z4_0_9 : w9.cell? ⟨w4.heap.size + 1, 0, none⟩ = some (.int .i64 (vx0)) := K4_9.out.cell 0
      have z4_1_9 : w9.cell? ⟨w4.heap.size + 1, 1, none⟩ = some (.int .i64 (vy0)) := K4_9.out.cell 1
      have z4_2_9 : w9.cell? ⟨w4.heap.size + 1, 2, none⟩ = some (.int .i64 (0)) := K4_9.out.cell 2
      have z4_3_9 : w9.cell? ⟨w4.heap.size + 1, 3, none⟩ = some (.int .i64 (0)) := K4_9.out.cell 3
      have l5_9 : g14 < w9.heap.size := K5_9.out.lt
      have z5_0_9 : w9.cell? ⟨g14, 0, none⟩ = some (.int .i64 (ax1)) := K5_9.out.cell 0
      have z5_1_9 : w9.cell? ⟨g14, 1, none⟩ = some (.int .i64 (ay1)) := K5_9.out.cell 1
      clear hT hP HP8
      have hg9 : w.heap.size + 2 ≤ w9.heap.size := by omega
      go_upto_region 13 with fail
      generalize hwn : (w9.alloc (.cells #[.int .i64 (wx1), .int .i64 (wy1)] 35)) = w10
      have hbn : Below w9.heap.size w9 w10 := by rw [← hwn]; repeat' (first | exact Below.refl _ _ | refine below_drewN ?_ _ | refine Below.drew ?_ | refine Below.alloc ?_ (by first | omega | (simp; done) | (simp; omega) | (simp [World.setCell]; omega)) _ | refine Below.setCell ?_ (by first | omega | (simp; done) | (simp; omega)) _)
      have K6_10 := Lib.hid (show Blk w10 (w9.heap.size) 35 #[.int .i64 (wx1), .int .i64 (wy1)] by rw [← hwn]; repeat' (first | exact Blk.at_ _ (by first | rfl | (simp; done) | (simp; omega)) _ _ | refine Blk.drewN ?_ _ | refine Blk.drew ?_ | refine Blk.alloc ?_ _ | refine Blk.far ?_ (by first | omega | (simp; done) | (simp; omega)) _ | assumption))
      have hbT := Two.of (a := gp) (b := gm) hbn
      have HW10 := Lib.hid (show Two gp gm w w10 from HW9.out.trans hbT)
      have K0_10 := Lib.hid (hbT.blk K0_9.out (by omega) (by omega))
      have K1_10 := Lib.hid (hbT.blk K1_9.out (by omega) (by omega))
      have K2_10 := Lib.hid (hbT.blk K2_9.out (by omega) (by omega))
      have K3_10 := Lib.hid (hbT.blk K3_9.out (by omega) (by omega))
      have K4_10 := Lib.hid (hbT.blk K4_9.out (by omega) (by omega))
      have K5_10 := Lib.hid (hbT.blk K5_9.out (by omega) (by omega))
      have hz10 := hbT.size
      clear K0_9 l0_9 z0_0_9 z0_1_9 z0_2_9 z0_3_9 K1_9 l1_9 z1_0_9 z1_1_9 z1_2_9 z1_3_9 K2_9 l2_9 z2_0_9 z2_1_9 z2_2_9 z2_3_9 K3_9 l3_9 z3_0_9 z3_1_9 K4_9 l4_9 z4_0_9 z4_1_9 z4_2_9 z4_3_9 K5_9 l5_9 z5_0_9 z5_1_9
      have l0_10 : w.heap.size < w10.heap.size := K0_10.out.lt
      have z0_0_10 : w10.cell? ⟨w.heap.size, 0, none⟩ = some (.int .i64 (0)) := K0_10.out.cell 0
      have z0_1_10 : w10.cell? ⟨w.heap.size, 1, none⟩ = some (.int .i64 (0)) := K0_10.out.cell 1
      have z0_2_10 : w10.cell? ⟨w.heap.size, 2, none⟩ = some (.int .i64 (0)) := K0_10.out.cell 2
      have z0_3_10 : w10.cell? ⟨w.heap.size, 3, none⟩ = some (.int .i64 (0)) := K0_10.out.cell 3
      have l1_10 : gl < w10.heap.size := K1_10.out.lt
      have z1_0_10 : w10.cell? ⟨gl, 0, none⟩ = some (.int .i64 (la0)) := K1_10.out.cell 0
      have z1_1_10 : w10.cell? ⟨gl, 1, none⟩ = some (.int .i64 (lb0)) := K1_10.out.cell 1
      have z1_2_10 : w10.cell? ⟨gl, 2, none⟩ = some (.int .i64 (la1)) := K1_10.out.cell 2
      have z1_3_10 : w10.cell? ⟨gl, 3, none⟩ = some (.int .i64 (lb1)) := K1_10.out.cell 3
      have l2_10 : gr < w10.heap.size := K2_10.out.lt
      have z2_0_10 : w10.cell? ⟨gr, 0, none⟩ = some (.int .i64 (ra0)) := K2_10.out.cell 0
      have z2_1_10 : w10.cell? ⟨gr, 1, none⟩ = some (.int .i64 (rb0)) := K2_10.out.cell 1
      have z2_2_10 : w10.cell? ⟨gr, 2, none⟩ = some (.int .i64 (ra1)) := K2_10.out.cell 2
      have z2_3_10 : w10.cell? ⟨gr, 3, none⟩ = some (.int .i64 (rb1)) := K2_10.out.cell 3
      have l3_10 : w4.heap.size < w10.heap.size := K3_10.out.lt
      have z3_0_10 : w10.cell? ⟨w4.heap.size, 0, none⟩ = some (.int .i64 (pa)) := K3_10.out.cell 0
      have z3_1_10 : w10.cell? ⟨w4.heap.size, 1, none⟩ = some (.int .i64 (pb)) := K3_10.out.cell 1
      have l4_10 : w4.heap.size + 1 < w10.heap.size := K4_10.out.lt
      have z4_0_10 : w10.cell? ⟨w4.heap.size + 1, 0, none⟩ = some (.int .i64 (vx0)) := K4_10.out.cell 0
      have z4_1_10 : w10.cell? ⟨w4.heap.size + 1, 1, none⟩ = some (.int .i64 (vy0)) := K4_10.out.cell 1
      have z4_2_10 : w10.cell? ⟨w4.heap.size + 1, 2, none⟩ = some (.int .i64 (0)) := K4_10.out.cell 2
      have z4_3_10 : w10.cell? ⟨w4.heap.size + 1, 3, none⟩ = some (.int .i64 (0)) := K4_10.out.cell 3
      have l5_10 : g14 < w10.heap.size := K5_10.out.lt
      have z5_0_10 : w10.cell? ⟨g14, 0, none⟩ = some (.int .i64 (ax1)) := K5_10.out.cell 0
      have z5_1_10 : w10.cell? ⟨g14, 1, none⟩ = some (.int .i64 (ay1)) := K5_10.out.cell 1
      have HN10 := Lib.hid hbn
      clear hwn hbn hbT
      have l6_10 : w9.heap.size < w10.heap.size := K6_10.out.lt
      have z6_0_10 : w10.cell? ⟨w9.heap.size, 0, none⟩ = some (.int .i64 (wx1)) := K6_10.out.cell 0
      have z6_1_10 : w10.cell? ⟨w9.heap.size, 1, none⟩ = some (.int .i64 (wy1)) := K6_10.out.cell 1
      have HP10 := Lib.hid (HP9.out.below HN10.out (show gp < w9.heap.size by omega))
      clear HP9
      have hgp : gp < w10.heap.size := by omega
      have hgm : gm < w10.heap.size := by omega
      refine Fx.region (fun f w' => (f 11 = false → Two gp gm w10 w' ∧ PivL l g0 g1 (some ⟨xb, xo, none⟩) n c tb mb top n₀ gm gp K' cnt' 9 ((lgA || !o11.isSome) || !o21.isSome) (((lgA || !o11.isSome) || !o21.isSome) || !o31.isSome) f w') ∧ (f 11 = true → ∃ v, Two gp gm w10 v ∧ PivAt l g0 g1 (some ⟨xb, xo, none⟩) n c tb mb top n₀ gm gp K' cnt' (((lgA || !o11.isSome) || !o21.isSome) || !o31.isSome) v ∧ w' = (v.setCell ⟨w4.heap.size + 1, 2, none⟩ (.int .i64 (vx1))).setCell ⟨w4.heap.size + 1, 3, none⟩ (.int .i64 (vy1)))) (by kernel_rfl) (by kernel_rfl) ?_ ?_
      · intro f hf0
        exact ⟨fun _ => ⟨Two.of (below_drewN (Below.refl _ _) 1), (by unfold PivL; rw [hf0 9]; exact HP10.out.below (below_drewN (Below.refl _ _) 1) hgp)⟩, fun h => by rw [hf0 11] at h; cases h⟩
      repeat (first
        | (refine Fx.skip_ (by rfl) (fun f w h => h) ?_; simp only [Act.put, List.setIfInBounds_toArray, List.set_cons_zero, List.set_cons_succ])
        | (refine Fx.val_ ?_ (by rfl) ?_ (fun f w h => h) ?_
           rotate_left
           · intro f w' hD hk
             obtain ⟨jw, jr⟩ := id hD
             clear hk hD jw jr
             go_simp
             try rfl
           simp only [Act.put, List.setIfInBounds_toArray, List.set_cons_zero, List.set_cons_succ]))
      refine Fx.val_ ?_ (by rfl) ?_ (fun f w h => h) ?_
      rotate_left
      · intro f w' hD hk
        obtain ⟨jw, jr⟩ := id hD
        have jw := jw (hk.2.1 11 (by kernel_rfl))
        have e0 := (jw.1.blk K1_10.out (by omega) (by omega)).cell 2
        have e1 := (jw.1.blk K1_10.out (by omega) (by omega)).cell 3
        clear hk hD jw jr
        go_simp
        try rfl
      simp only [Act.put, List.setIfInBounds_toArray, List.set_cons_zero, List.set_cons_succ]
      refine Fx.val_ ?_ (by rfl) ?_ (fun f w h => h) ?_
      rotate_left
      · intro f w' hD hk
        obtain ⟨jw, jr⟩ := id hD
        have jw := jw (hk.2.1 11 (by kernel_rfl))
        have e0 := (jw.1.blk K6_10.out (by omega) (by omega)).cell 0
        have e1 := (jw.1.blk K6_10.out (by omega) (by omega)).cell 1
        clear hk hD jw jr
        go_simp
        try rfl
      simp only [Act.put, List.setIfInBounds_toArray, List.set_cons_zero, List.set_cons_succ]
      refine Fx.call_ (.tuple #[.agg #[.int .i64 (resV o31).1, .int .i64 (resV o31).2], .int .i64 (resE o31)]) ?_ ?_ (by rfl) ?_ ?_ ?_
      rotate_left 2
      · intro w'
        go_simp
        refine ⟨?_, ?_⟩ <;> rfl
      · intro f w' hD hk
        have j2 := hD.1 (hk.2.1 11 (by kernel_rfl))
        exact (add_opt (la1, lb1) (wx1, wy1) o31 FO.out.2.1 FO.out.2.2.2.2.2.2.2.2 O31.out w').mono fun e w'' ⟨he, hb⟩ => ⟨he, fun _ => ⟨j2.1.lay hb, (PivL.below j2.2 hb (by have := j2.1.size; omega)).same (by decide)⟩, fun h => absurd ((hk.2.1 11 (by kernel_rfl)).symm.trans h) (by decide)⟩
      simp only [Act.put, List.setIfInBounds_toArray, List.set_cons_zero, List.set_cons_succ]
      repeat (first
        | (refine Fx.skip_ (by rfl) (fun f w h => h) ?_; simp only [Act.put, List.setIfInBounds_toArray, List.set_cons_zero, List.set_cons_succ])
        | (refine Fx.val_ ?_ (by rfl) ?_ (fun f w h => h) ?_
           rotate_left
           · intro f w' hD hk
             obtain ⟨jw, jr⟩ := id hD
             clear hk hD jw jr
             go_simp
             try rfl
           simp only [Act.put, List.setIfInBounds_toArray, List.set_cons_zero, List.set_cons_succ]))
      refine Fx.call_ (.agg #[.int .i64 (vx1), .int .i64 (vy1)]) ?_ ?_ (by rfl) ?_ ?_ ?_
      rotate_left 2
      · intro w'
        go_simp
        refine ⟨?_, ?_⟩ <;> rfl
      · intro f w' hD hk
        have j2 := hD.1 (hk.2.1 11 (by kernel_rfl))
        exact (PivL.must o31 vx1 vy1 M31.out j2.2 hk.1).mono fun e w'' ⟨he, hT, hL⟩ => ⟨he, fun _ => ⟨j2.1.trans hT, hL⟩, fun h => absurd ((hk.2.1 11 (by kernel_rfl)).symm.trans h) (by decide)⟩
      simp only [Act.put, List.setIfInBounds_toArray, List.set_cons_zero, List.set_cons_succ]
      repeat (first
        | (refine Fx.skip_ (by rfl) (fun f w h => h) ?_; simp only [Act.put, List.setIfInBounds_toArray, List.set_cons_zero, List.set_cons_succ])
        | (refine Fx.val_ ?_ (by rfl) ?_ (fun f w h => h) ?_
           rotate_left
           · intro f w' hD hk
             obtain ⟨jw, jr⟩ := id hD
             clear hk hD jw jr
             go_simp
             try rfl
           simp only [Act.put, List.setIfInBounds_toArray, List.set_cons_zero, List.set_cons_succ]))
      refine Fx.store_ (fun w' => ((w'.setCell ⟨w4.heap.size + 1, 2, none⟩ (.int .i64 (vx1))).setCell ⟨w4.heap.size + 1, 3, none⟩ (.int .i64 (vy1)))) (by rfl) ?_ ?_ ?_
      · intro f w' hD hk
        obtain ⟨jw, jr⟩ := id hD
        have jw := jw hk.1
        have q0 := (jw.1.blk K4_10.out (by omega) (by omega)).cell 2
        have q1 := (jw.1.blk K4_10.out (by omega) (by omega)).frozen 2
        have q2 := (jw.1.blk K4_10.out (by omega) (by omega)).cell 3
        have q3 := (jw.1.blk K4_10.out (by omega) (by omega)).frozen 3
        clear hk hD jw jr
        go_simp
      · intro f w' hD hk
        obtain ⟨jw, jr⟩ := id hD
        have jw := jw hk.1
        exact ⟨fun h => by simp [Fx.add] at h, fun _ => ⟨w', jw.1, (by have h := jw.2; unfold PivL at h; rw [hk.2.2.1 9 (by kernel_rfl)] at h; exact h), rfl⟩⟩
      simp only [Act.put, List.setIfInBounds_toArray, List.set_cons_zero, List.set_cons_succ]
      refine Fx.nil_ ?_
      intro f wz hall hD
      obtain ⟨v, hT, hP, hw⟩ := hD.2 (hall 11 (by simp))
      clear hall hD
      have hTT : Hid (Two gp gm w wz) := by rw [hw]; exact Lib.hid (((HW10.out.trans hT).set (p := ⟨w4.heap.size + 1, 2, none⟩) (by show w.heap.size ≤ w4.heap.size + 1; omega) _).set (p := ⟨w4.heap.size + 1, 3, none⟩) (by show w.heap.size ≤ w4.heap.size + 1; omega) _)
      have hPP : Hid (PivAt l g0 g1 (some ⟨xb, xo, none⟩) n c tb mb top n₀ gm gp K' cnt' lgB wz) := by
        rw [HLB.out] at hP
        rw [hw]
        exact Lib.hid (hP.below (((Below.refl (gp + 1) v).setCell (p := ⟨w4.heap.size + 1, 2, none⟩) (by show gp + 1 ≤ w4.heap.size + 1; omega) _).setCell (p := ⟨w4.heap.size + 1, 3, none⟩) (by show gp + 1 ≤ w4.heap.size + 1; omega) _) (Nat.lt_succ_self _))
      have k0 : Hid (Blk wz w.heap.size 36 #[.int .i64 0, .int .i64 0, .int .i64 0, .int .i64 0]) := by rw [hw]; exact Lib.hid (((hT.blk K0_10.out (by omega) (by omega)).far (p := ⟨w4.heap.size + 1, 2, none⟩) (by show w.heap.size ≠ w4.heap.size + 1; omega) _).far (p := ⟨w4.heap.size + 1, 3, none⟩) (by show w.heap.size ≠ w4.heap.size + 1; omega) _)
      have k1 : Hid (Blk wz gl 36 #[.int .i64 la0, .int .i64 lb0, .int .i64 la1, .int .i64 lb1]) := by rw [hw]; exact Lib.hid (((hT.blk K1_10.out (by omega) (by omega)).far (p := ⟨w4.heap.size + 1, 2, none⟩) (by show gl ≠ w4.heap.size + 1; omega) _).far (p := ⟨w4.heap.size + 1, 3, none⟩) (by show gl ≠ w4.heap.size + 1; omega) _)
      have k2 : Hid (Blk wz gr 36 #[.int .i64 ra0, .int .i64 rb0, .int .i64 ra1, .int .i64 rb1]) := by rw [hw]; exact Lib.hid (((hT.blk K2_10.out (by omega) (by omega)).far (p := ⟨w4.heap.size + 1, 2, none⟩) (by show gr ≠ w4.heap.size + 1; omega) _).far (p := ⟨w4.heap.size + 1, 3, none⟩) (by show gr ≠ w4.heap.size + 1; omega) _)
      have k3 : Hid (Blk wz w4.heap.size 35 #[.int .i64 pa, .int .i64 pb]) := by rw [hw]; exact Lib.hid (((hT.blk K3_10.out (by omega) (by omega)).far (p := ⟨w4.heap.size + 1, 2, none⟩) (by show w4.heap.size ≠ w4.heap.size + 1; omega) _).far (p := ⟨w4.heap.size + 1, 3, none⟩) (by show w4.heap.size ≠ w4.heap.size + 1; omega) _)
      have k4 : Hid (Blk wz (w4.heap.size + 1) 36 #[.int .i64 vx0, .int .i64 vy0, .int .i64 vx1, .int .i64 vy1]) := by
        have h := ((hT.blk K4_10.out (by omega) (by omega)).set_ 2 (.int .i64 vx1)).set_ 3 (.int .i64 vy1)
        rw [hw]
        exact Lib.hid (by simpa using h)
      have hsz : w5.heap.size ≤ wz.heap.size := by
        have h := hT.size
        rw [hw]
        simp only [World.setCell, Array.size_modify]
        omega
      clear hT hP hw
      go_wp2
      go_roundw
      case rel => exact ⟨1 + 1, by omega, by go_num, hTT.out, hsz, hPP.out, k0.out, k1.out, k2.out, k3.out, k4.out⟩
      case measure => simp [intOf]
    
    · have hi6 : _ = Value.int .i64 2 := hii6
      subst hi6
      clear hii6
      have HP6 : Hid (PivAt l g0 g1 (some ⟨xb, xo, none⟩) n c tb mb top n₀ gm gp K' cnt' lgB w6) := Lib.hid hp6
      clear hp6
      have HW6 := Lib.hid hw6
      have K0_6 := Lib.hid (show Blk w6 (w.heap.size) 36 #[.int .i64 (0), .int .i64 (0), .int .i64 (0), .int .i64 (0)] from hb0)
      have K1_6 := Lib.hid (show Blk w6 (w4.heap.size + 1) 36 #[.int .i64 (vx0), .int .i64 (vy0), .int .i64 (vx1), .int .i64 (vy1)] from hb4)
      clear hw6 hb0 hb4
      have l0_6 : w.heap.size < w6.heap.size := K0_6.out.lt
      have z0_0_6 : w6.cell? ⟨w.heap.size, 0, none⟩ = some (.int .i64 (0)) := K0_6.out.cell 0
      have z0_1_6 : w6.cell? ⟨w.heap.size, 1, none⟩ = some (.int .i64 (0)) := K0_6.out.cell 1
      have z0_2_6 : w6.cell? ⟨w.heap.size, 2, none⟩ = some (.int .i64 (0)) := K0_6.out.cell 2
      have z0_3_6 : w6.cell? ⟨w.heap.size, 3, none⟩ = some (.int .i64 (0)) := K0_6.out.cell 3
      have l1_6 : w4.heap.size + 1 < w6.heap.size := K1_6.out.lt
      have z1_0_6 : w6.cell? ⟨w4.heap.size + 1, 0, none⟩ = some (.int .i64 (vx0)) := K1_6.out.cell 0
      have z1_1_6 : w6.cell? ⟨w4.heap.size + 1, 1, none⟩ = some (.int .i64 (vy0)) := K1_6.out.cell 1
      have z1_2_6 : w6.cell? ⟨w4.heap.size + 1, 2, none⟩ = some (.int .i64 (vx1)) := K1_6.out.cell 2
      have z1_3_6 : w6.cell? ⟨w4.heap.size + 1, 3, none⟩ = some (.int .i64 (vy1)) := K1_6.out.cell 3
      clear hb1 hb2 hb3
      go_upto_region 15 with fail
      obtain ⟨W0, hW0⟩ : ∃ W0, W0 = w6.drewN 1 := ⟨_, rfl⟩
      have hP0 : PivAt l g0 g1 (some ⟨xb, xo, none⟩) n c tb mb top n₀ gm gp K' cnt' lgB W0 := by rw [hW0]; exact HP6.out.below (below_drewN (Below.refl _ _) 1) (show gp < w6.heap.size by omega)
      obtain ⟨W2, hrun, hP2, hg2⟩ := hP0.put name hnm (by have := HCC.out; have := HC.out; unfold maxLen; omega)
      rw [HVN.out] at hrun
      have HRUN := Lib.hid hrun
      have HPP := Lib.hid hP2
      have HTT : Hid (Two gp gm w6 W2) := by
        have h : Two gp gm w6 W0 := by rw [hW0]; exact Two.of (below_drewN (Below.refl _ _) 1)
        exact Lib.hid (h.trans (Two.of2 hg2))
      have d0 := hP0.blk.cell 1
      have d1 : Blk W0 (w4.heap.size + 1) 36 #[.int .i64 vx0, .int .i64 vy0, .int .i64 vx1, .int .i64 vy1] := by rw [hW0]; exact K1_6.out.drewN 1
      have D1 := Lib.hid d1
      clear hrun hP2 hg2 hP0 d1 HP6
      refine Fx.region (fun f w' => (f 6 = false → w' = W0) ∧ (f 6 = true → w' = W2)) (by kernel_rfl) (by kernel_rfl) ?_ ?_
      · intro f hf0
        exact ⟨fun _ => hW0.symm, fun h => by rw [hf0 6] at h; cases h⟩
      have HW0 := Lib.hid hW0
      clear hW0
      repeat (first
        | (refine Fx.skip_ (by rfl) (fun f w h => h) ?_; simp only [Act.put, List.setIfInBounds_toArray, List.set_cons_zero, List.set_cons_succ])
        | (refine Fx.val_ ?_ (by rfl) ?_ (fun f w h => h) ?_
           rotate_left
           · intro f w' hD hk
             obtain ⟨jw, jr⟩ := id hD
             clear hk hD jw jr
             go_simp
             try rfl
           simp only [Act.put, List.setIfInBounds_toArray, List.set_cons_zero, List.set_cons_succ]))
      refine Fx.val_ ?_ (by rfl) ?_ (fun f w h => h) ?_
      rotate_left
      · intro f w' hD hk
        obtain ⟨jw, jr⟩ := id hD
        have jw := jw (hk.2.1 6 (by kernel_rfl))
        have q0 : w'.cell? ⟨gp, 1, none⟩ = some (.map (some gm)) := by rw [jw]; exact d0
        clear hk hD jw jr
        go_simp
        try rfl
      simp only [Act.put, List.setIfInBounds_toArray, List.set_cons_zero, List.set_cons_succ]
      repeat (first
        | (refine Fx.skip_ (by rfl) (fun f w h => h) ?_; simp only [Act.put, List.setIfInBounds_toArray, List.set_cons_zero, List.set_cons_succ])
        | (refine Fx.val_ ?_ (by rfl) ?_ (fun f w h => h) ?_
           rotate_left
           · intro f w' hD hk
             obtain ⟨jw, jr⟩ := id hD
             clear hk hD jw jr
             go_simp
             try rfl
           simp only [Act.put, List.setIfInBounds_toArray, List.set_cons_zero, List.set_cons_succ]))
      refine Fx.val_ ?_ (by rfl) ?_ (fun f w h => h) ?_
      rotate_left
      · intro f w' hD hk
        obtain ⟨jw, jr⟩ := id hD
        have jw := jw (hk.2.1 6 (by kernel_rfl))
        have qb := (show Blk w' _ _ _ by rw [jw]; exact D1.out)
        have q0 := qb.cell 0
        have q1 := qb.cell 1
        have q2 := qb.cell 2
        have q3 := qb.cell 3
        clear hk hD jw jr
        go_simp
        try rfl
      simp only [Act.put, List.setIfInBounds_toArray, List.set_cons_zero, List.set_cons_succ]
      refine Fx.store_ (fun w' => W2) (by rfl) ?_ ?_ ?_
      · intro f w' hD hk
        obtain ⟨jw, jr⟩ := hD
        have jw := jw hk.1
        subst jw
        exact exec_put (.tmp 100) (.tmp 101) (.tmp 102) _ rfl HRUN.out
      · intro f w' hD hk
        exact ⟨fun h => by simp [Fx.add] at h, fun _ => rfl⟩
      simp only [Act.put, List.setIfInBounds_toArray, List.set_cons_zero, List.set_cons_succ]
      refine Fx.nil_ ?_
      intro f w1 hall hD
      have hf6 := hall 6 (by simp)
      obtain ⟨jw, jr⟩ := hD
      simp only [hf6, if_true] at *
      have jr := jr (by first | rfl | trivial)
      clear jw
      try clear hall
      subst jr
      obtain ⟨w7, hnm⟩ : ∃ z : World, z = w1 := ⟨_, rfl⟩
      subst hnm
      have hT := HTT.out
      have HW7 := Lib.hid (show Two gp gm w w7 from HW6.out.trans hT)
      have K0_7 := Lib.hid (hT.blk K0_6.out (by omega) (by omega))
      have K1_7 := Lib.hid (hT.blk K1_6.out (by omega) (by omega))
      have hz7 := hT.size
      clear K0_6 l0_6 z0_0_6 z0_1_6 z0_2_6 z0_3_6 K1_6 l1_6 z1_0_6 z1_1_6 z1_2_6 z1_3_6
      have l0_7 : w.heap.size < w7.heap.size := K0_7.out.lt
      have z0_0_7 : w7.cell? ⟨w.heap.size, 0, none⟩ = some (.int .i64 (0)) := K0_7.out.cell 0
      have z0_1_7 : w7.cell? ⟨w.heap.size, 1, none⟩ = some (.int .i64 (0)) := K0_7.out.cell 1
      have z0_2_7 : w7.cell? ⟨w.heap.size, 2, none⟩ = some (.int .i64 (0)) := K0_7.out.cell 2
      have z0_3_7 : w7.cell? ⟨w.heap.size, 3, none⟩ = some (.int .i64 (0)) := K0_7.out.cell 3
      have l1_7 : w4.heap.size + 1 < w7.heap.size := K1_7.out.lt
      have z1_0_7 : w7.cell? ⟨w4.heap.size + 1, 0, none⟩ = some (.int .i64 (vx0)) := K1_7.out.cell 0
      have z1_1_7 : w7.cell? ⟨w4.heap.size + 1, 1, none⟩ = some (.int .i64 (vy0)) := K1_7.out.cell 1
      have z1_2_7 : w7.cell? ⟨w4.heap.size + 1, 2, none⟩ = some (.int .i64 (vx1)) := K1_7.out.cell 2
      have z1_3_7 : w7.cell? ⟨w4.heap.size + 1, 3, none⟩ = some (.int .i64 (vy1)) := K1_7.out.cell 3
      clear hT HTT HRUN D1 d0
      obtain ⟨i0, i1, i2⟩ := HI.out
      have hgood := good_more i0 i1 i2 HG3.out HKL.out HKR.out
      have hfl : ((lg' || !stepOK (plV l g0 r.left) (plV l g0 r.right) r.al r.ar) || !stepOK (plV l g1 r.left) (plV l g1 r.right) r.al r.ar) = lgB := by
        rw [S0.out.2, S1.out.2, ← HLB.out, ← HLA.out]
        simp only [Bool.or_assoc]
      rw [hfl] at hgood
      have HGD2 := Lib.hid hgood
      clear hgood hfl i0 i1 i2
      have sc0 := (K0_7.out).cell 0
      have sf0 := (K0_7.out).frozen 0
      have sk0 : Blk (w7.setCell ⟨w.heap.size, 0, none⟩ (.int .i64 (vx0))) (w.heap.size) 36 #[.int .i64 (vx0), .int .i64 (0), .int .i64 (0), .int .i64 (0)] := by simpa using (K0_7.out).set_ 0 (.int .i64 (vx0))
      have sc1 := (sk0).cell 1
      have sf1 := (sk0).frozen 1
      have sk1 : Blk ((w7.setCell ⟨w.heap.size, 0, none⟩ (.int .i64 (vx0))).setCell ⟨w.heap.size, 1, none⟩ (.int .i64 (vy0))) (w.heap.size) 36 #[.int .i64 (vx0), .int .i64 (vy0), .int .i64 (0), .int .i64 (0)] := by simpa using (sk0).set_ 1 (.int .i64 (vy0))
      have sc2 := (sk1).cell 2
      have sf2 := (sk1).frozen 2
      have sk2 : Blk (((w7.setCell ⟨w.heap.size, 0, none⟩ (.int .i64 (vx0))).setCell ⟨w.heap.size, 1, none⟩ (.int .i64 (vy0))).setCell ⟨w.heap.size, 2, none⟩ (.int .i64 (vx1))) (w.heap.size) 36 #[.int .i64 (vx0), .int .i64 (vy0), .int .i64 (vx1), .int .i64 (0)] := by simpa using (sk1).set_ 2 (.int .i64 (vx1))
      have sc3 := (sk2).cell 3
      have sf3 := (sk2).frozen 3
      have sk3 : Blk ((((w7.setCell ⟨w.heap.size, 0, none⟩ (.int .i64 (vx0))).setCell ⟨w.heap.size, 1, none⟩ (.int .i64 (vy0))).setCell ⟨w.heap.size, 2, none⟩ (.int .i64 (vx1))).setCell ⟨w.heap.size, 3, none⟩ (.int .i64 (vy1))) (w.heap.size) 36 #[.int .i64 (vx0), .int .i64 (vy0), .int .i64 (vx1), .int .i64 (vy1)] := by simpa using (sk2).set_ 3 (.int .i64 (vy1))
      have sK := Lib.hid sk3
      have sd0 := sk3.cell 0
      have sd1 := sk3.cell 1
      have sd2 := sk3.cell 2
      have sd3 := sk3.cell 3
      clear sk0 sk1 sk2 sk3
      go_wp2_with fail
      have hTw := ((((HW7.out.set (p := ⟨w.heap.size, 0, none⟩) (Nat.le_refl _) (.int .i64 vx0)).set (p := ⟨w.heap.size, 1, none⟩) (Nat.le_refl _) (.int .i64 vy0)).set (p := ⟨w.heap.size, 2, none⟩) (Nat.le_refl _) (.int .i64 vx1)).set (p := ⟨w.heap.size, 3, none⟩) (Nat.le_refl _) (.int .i64 vy1))
      have hBw := (((((Below.refl (gp + 1) w7).setCell (p := ⟨w.heap.size, 0, none⟩) (by show gp + 1 ≤ w.heap.size; omega) (.int .i64 vx0)).setCell (p := ⟨w.heap.size, 1, none⟩) (by show gp + 1 ≤ w.heap.size; omega) (.int .i64 vy0)).setCell (p := ⟨w.heap.size, 2, none⟩) (by show gp + 1 ≤ w.heap.size; omega) (.int .i64 vx1)).setCell (p := ⟨w.heap.size, 3, none⟩) (by show gp + 1 ≤ w.heap.size; omega) (.int .i64 vy1))
      exact bodyPost_ret (v := .agg #[.int .i64 vx0, .int .i64 vy0, .int .i64 vx1, .int .i64 vy1]) (by simp [results, Try.results29, go_sem, sd0, sd1, sd2, sd3]) rfl
        ⟨by rw [HVN.out], (fun u => u = name || K' u), cnt' + 1, lgB, hTw, HPP.out.below hBw (Nat.lt_succ_self _), HGD2.out, fun x hx => by simp [HKK.out x hx], by simp, by have := HCC.out; omega⟩
end Go.Proofs.Ytfigbdhfmlhjdaa

end
