import Derived.Test.YtdidcpealabaiaaQ21
import Derived.Test.YtdidcpealabaiaaQ25

section
/- The walk of the statement on stars and their best model. -/
namespace Go.Proofs.Ytdidcpealabaiaa
open Go Go.RowKit

theorem fitF_alike {S l : List Star} (h : S.map (fun s => (s.xs, s.er)) = l.map (fun s => (s.xs, s.er))) : fitF S = fitF l := by
  have hx : S.map Star.xs = l.map Star.xs := by
    have := congrArg (List.map Prod.fst) h
    rw [List.map_map, List.map_map] at this
    exact this
  have hr : ∀ i, rgt S i = rgt l i := fun i => by
    have e : ∀ x : List Star, rgt x i = ((x.map (fun s => (s.xs, s.er))).map fun p : List Int × Int => p.1.getD i 0 * p.2).sum := fun x => by unfold rgt shp; rw [List.map_map]; rfl
    rw [e, e, h]
  have hR : ∀ N, rgtL S N = rgtL l N := fun N => by
    unfold rgtL
    exact List.map_congr_left fun i _ => by rw [rgtTo_all, rgtTo_all, hr]
  have hT : ∀ N, fitT S N = fitT l N := fun N => by
    unfold fitT
    rw [fitM_congr hx, hR]
  unfold fitF fitG
  rw [termsN_congr hx, fitM_congr hx, hT]
theorem Tch.readsO {g n : Nat} {xs ys : List Value} {A : Option Addr} {w w' w0 : World} (h : Tch (fun q => q = g) w w') (hr : Reads w w.heap.size 1 A n xs) (h0 : Reads w0 g 1 A n ys) : Reads w' w'.heap.size 1 A n xs := by
  refine ⟨hr.1, fun hn => ?_⟩
  obtain ⟨b, o, e, hb, hc⟩ := hr.2 hn
  obtain ⟨b', o', e', hb', -⟩ := h0.2 hn
  have := h.size
  obtain ⟨rfl, rfl⟩ : b = b' ∧ o = o' := by rw [e] at e'; simpa using e'
  exact ⟨b, o, e, by omega, fun j u hu => (h.cell (p := ⟨b, o + j, none⟩) hb (show ¬ b = g by omega)).trans (hc j u hu)⟩
theorem Tch.readsN {X : Nat → Prop} {n : Nat} {xs : List Value} {A : Option Addr} {w w' : World} (h : Tch X w w') (hr : Reads w w.heap.size 1 A n xs) (hA : ∀ b o, A = some ⟨b, o, none⟩ → ¬ X b) : Reads w' w'.heap.size 1 A n xs := by
  refine ⟨hr.1, fun hn => ?_⟩
  obtain ⟨b, o, e, hb, hc⟩ := hr.2 hn
  have := h.size
  exact ⟨b, o, e, by omega, fun j u hu => (h.cell (p := ⟨b, o + j, none⟩) hb (hA b o e)).trans (hc j u hu)⟩
theorem pfitB_is {S l : List Star} (h : S.map (fun s => (s.xs, s.er)) = l.map (fun s => (s.xs, s.er))) {T : List Int} {D E : Int} {N : Nat} (hf : fitF l = ((T, D), E)) (hN : T.length = N) (A : Option Addr) (n c : Nat) (hE : (starsF S).2 = 0) (w : World) (hx : StarsAt S A n w) :
    Calls Try.prog 22 #[.slice A n c] w fun e w' => ∃ A c, e = .returned (.tuple #[.agg #[.slice A N c, .int .i64 D], .int .i64 E]) ∧ Below w.heap.size w w' ∧ Reads w' w'.heap.size 1 A N (T.map (.int .i64)) ∧ ∀ b o, A = some ⟨b, o, none⟩ → w.heap.size ≤ b := by
  have h := pfit_any S A n c hE w hx
  refine h.mono fun e w' hp => ?_
  unfold FitPost at hp
  rw [fitF_alike ‹_›, hf] at hp
  subst hN
  exact hp

set_option maxRecDepth 100000 in
set_option maxHeartbeats 8000000 in
theorem lawPB_any (A : Option Addr) (n c : Nat) (l : List Star) (w : World) (hnc : n ≤ c ∧ c ≤ 9223372036854775807) (_ : ∀ s ∈ l, (∀ z ∈ s.xs, I64 z) ∧ I64 s.er) (hx : StarsAt l A n w) :
    Calls Try.prog 4 #[.slice A n c] w fun e w' => e = .returned (.bool true) ∧ Below w.heap.size w w' := by
  obtain ⟨hnc, hcm⟩ := hnc
  cases hr : fewStars l
  · have HR := Lib.hid hr
    clear hr
    go_enter Try.func4, Try.ntmps4
    have R0_0 := Lib.hid hx
    clear hx
    go_wp2_with fail
    refine (awakept_any _).mono ?_
    rintro e w1 ⟨rfl, hb⟩
    have HB1 := Lib.hid (show Below w.heap.size w w1 from step_below hb (by repeat' (first | exact Below.refl _ _ | exact HB0.out | refine below_drewN ?_ _ | refine Below.drew ?_ | refine Below.alloc ?_ (by first | omega | (simp; done) | (simp; omega) | (simp [World.setCell]; omega)) _ | refine Below.setCell ?_ (by first | omega | (simp; done) | (simp; omega)) _ | assumption)))
    have hL1 := Lib.hid (show Below w.heap.size w _ from reads_mid hb (by repeat' (first | exact Below.refl _ _ | refine below_drewN ?_ _ | refine Below.drew ?_ | refine Below.alloc ?_ (by first | omega | (simp; done) | (simp; omega) | (simp [World.setCell]; omega)) _ | refine Below.setCell ?_ (by first | omega | (simp; done) | (simp; omega)) _)))
    have R0_1 := Lib.hid (stars_lay hb hL1.out R0_0.out)
    clear hL1 R0_0
    have hz1 := hb.size
    try simp only [World.size_alloc, World.drewN, World.drew] at hz1
    clear hb
    go_wp2_with fail
    refine (fewstars_is l A n c false HR.out _ R0_1.out (by omega)).mono ?_
    rintro e w' ⟨rfl, rfl⟩
    go_wp2
    go_ret
    exact ⟨rfl, by repeat' (first | exact Below.refl _ _ | exact HB1.out | refine below_drewN ?_ _ | refine Below.drew ?_ | refine Below.alloc ?_ (by first | omega | (simp; done) | (simp; omega) | (simp [World.setCell]; omega)) _ | refine Below.setCell ?_ (by first | omega | (simp; done) | (simp; omega)) _ | assumption)⟩
  obtain ⟨hf6, hf23⟩ := fewStars_right hr
  have hll := hx.len
  obtain ⟨⟨T0, C0⟩, h0⟩ : ∃ z, starsF l = z := ⟨_, rfl⟩
  have hn23 : n ≤ 23 := by omega
  have HR := Lib.hid hr
  have HF := Lib.hid hf6
  have H0 := Lib.hid h0
  have HXW := Lib.hid hx
  have q1 : (C0 != C0) = false := by simp
  have q2 : (T0 != T0) = false := by simp
  clear hr hf6 h0 hll
  go_enter Try.func4, Try.ntmps4
  have R0_0 := Lib.hid hx
  clear hx
  go_wp2_with fail
  refine (awakept_any _).mono ?_
  rintro e w1 ⟨rfl, hb⟩
  have HB1 := Lib.hid (show Below w.heap.size w w1 from step_below hb (by repeat' (first | exact Below.refl _ _ | exact HB0.out | refine below_drewN ?_ _ | refine Below.drew ?_ | refine Below.alloc ?_ (by first | omega | (simp; done) | (simp; omega) | (simp [World.setCell]; omega)) _ | refine Below.setCell ?_ (by first | omega | (simp; done) | (simp; omega)) _ | assumption)))
  have hL1 := Lib.hid (show Below w.heap.size w _ from reads_mid hb (by repeat' (first | exact Below.refl _ _ | refine below_drewN ?_ _ | refine Below.drew ?_ | refine Below.alloc ?_ (by first | omega | (simp; done) | (simp; omega) | (simp [World.setCell]; omega)) _ | refine Below.setCell ?_ (by first | omega | (simp; done) | (simp; omega)) _)))
  have R0_1 := Lib.hid (stars_lay hb hL1.out R0_0.out)
  clear hL1 R0_0
  have hz1 := hb.size
  try simp only [World.size_alloc, World.drewN, World.drew] at hz1
  clear hb
  go_wp2_with fail
  refine (fewstars_is l A n c true HR.out _ R0_1.out (by omega)).mono ?_
  rintro e w' ⟨rfl, rfl⟩
  go_wp2_with fail
  refine (cstars_any l A n c _ R0_1.out (by omega) (fun s hs => Nat.le_trans (HF.out s hs) (by decide))).mono ?_
  rintro e w2 ⟨A2, c2, S, rfl, hb, hS, hso⟩
  have HB2 := Lib.hid (show Below w.heap.size w w2 from step_below hb (by repeat' (first | exact Below.refl _ _ | exact HB1.out | refine below_drewN ?_ _ | refine Below.drew ?_ | refine Below.alloc ?_ (by first | omega | (simp; done) | (simp; omega) | (simp [World.setCell]; omega)) _ | refine Below.setCell ?_ (by first | omega | (simp; done) | (simp; omega)) _ | assumption)))
  have hL2 := Lib.hid (show Below w1.heap.size w1 _ from reads_mid hb (by repeat' (first | exact Below.refl _ _ | refine below_drewN ?_ _ | refine Below.drew ?_ | refine Below.alloc ?_ (by first | omega | (simp; done) | (simp; omega) | (simp [World.setCell]; omega)) _ | refine Below.setCell ?_ (by first | omega | (simp; done) | (simp; omega)) _)))
  have R0_2 := Lib.hid (stars_lay hb hL2.out R0_1.out)
  clear hL2 R0_1
  have hz2 := hb.size
  try simp only [World.size_alloc, World.drewN, World.drew] at hz2
  clear hb
  have hsa := hso.at_
  have R1_2 := Lib.hid hsa
  clear hsa
  have HSE := Lib.hid (stars_alike hS H0.out)
  clear hS hso
  go_wp2_with fail
  refine (pstars_is S A2 n c2 T0 C0 HSE.out _ R1_2.out (by omega)).mono ?_
  rintro e w3 ⟨rfl, hb⟩
  have HB3 := Lib.hid (show Below w.heap.size w w3 from step_below hb (by repeat' (first | exact Below.refl _ _ | exact HB2.out | refine below_drewN ?_ _ | refine Below.drew ?_ | refine Below.alloc ?_ (by first | omega | (simp; done) | (simp; omega) | (simp [World.setCell]; omega)) _ | refine Below.setCell ?_ (by first | omega | (simp; done) | (simp; omega)) _ | assumption)))
  have hL3 := Lib.hid (show Below w2.heap.size w2 _ from reads_mid hb (by repeat' (first | exact Below.refl _ _ | refine below_drewN ?_ _ | refine Below.drew ?_ | refine Below.alloc ?_ (by first | omega | (simp; done) | (simp; omega) | (simp [World.setCell]; omega)) _ | refine Below.setCell ?_ (by first | omega | (simp; done) | (simp; omega)) _)))
  have R0_3 := Lib.hid (stars_lay hb hL3.out R0_2.out)
  have R1_3 := Lib.hid (stars_lay hb hL3.out R1_2.out)
  clear hL3 R0_2 R1_2
  have hz3 := hb.size
  try simp only [World.size_alloc, World.drewN, World.drew] at hz3
  clear hb
  clear HSE
  go_wp2_with fail
  refine (cstars_any l A n c _ R0_3.out (by omega) (fun s hs => Nat.le_trans (HF.out s hs) (by decide))).mono ?_
  rintro e w4 ⟨A4, c4, X, rfl, hb, hX, hxo⟩
  have HB4 := Lib.hid (show Below w.heap.size w w4 from step_below hb (by repeat' (first | exact Below.refl _ _ | exact HB3.out | refine below_drewN ?_ _ | refine Below.drew ?_ | refine Below.alloc ?_ (by first | omega | (simp; done) | (simp; omega) | (simp [World.setCell]; omega)) _ | refine Below.setCell ?_ (by first | omega | (simp; done) | (simp; omega)) _ | assumption)))
  have hL4 := Lib.hid (show Below w3.heap.size w3 _ from reads_mid hb (by repeat' (first | exact Below.refl _ _ | refine below_drewN ?_ _ | refine Below.drew ?_ | refine Below.alloc ?_ (by first | omega | (simp; done) | (simp; omega) | (simp [World.setCell]; omega)) _ | refine Below.setCell ?_ (by first | omega | (simp; done) | (simp; omega)) _)))
  have R0_4 := Lib.hid (stars_lay hb hL4.out R0_3.out)
  have R1_4 := Lib.hid (stars_lay hb hL4.out R1_3.out)
  clear hL4 R0_3 R1_3
  have hz4 := hb.size
  try simp only [World.size_alloc, World.drewN, World.drew] at hz4
  clear hb
  have hsx := hxo.at_
  have R2_4 := Lib.hid hsx
  clear hsx
  have HXE := Lib.hid (stars_alike hX H0.out)
  have HXM := Lib.hid hX
  clear hX hxo
  by_cases c0 : C0 = 0
  rotate_left
  · have p1 : (C0 != 0) = true := by simpa using c0
    have p2 : (C0 == 0) = false := by simpa using c0
    have C0N := Lib.hid c0
    clear c0
    go_wp2_with fail
    refine (pfit_bad X A4 n c4 T0 C0 HXE.out C0N.out _ R2_4.out (by omega)).mono ?_
    rintro e w5 ⟨rfl, hb⟩
    have HB5 := Lib.hid (show Below w.heap.size w w5 from step_below hb (by repeat' (first | exact Below.refl _ _ | exact HB4.out | refine below_drewN ?_ _ | refine Below.drew ?_ | refine Below.alloc ?_ (by first | omega | (simp; done) | (simp; omega) | (simp [World.setCell]; omega)) _ | refine Below.setCell ?_ (by first | omega | (simp; done) | (simp; omega)) _ | assumption)))
    have hL5 := Lib.hid (show Below w4.heap.size w4 _ from reads_mid hb (by repeat' (first | exact Below.refl _ _ | refine below_drewN ?_ _ | refine Below.drew ?_ | refine Below.alloc ?_ (by first | omega | (simp; done) | (simp; omega) | (simp [World.setCell]; omega)) _ | refine Below.setCell ?_ (by first | omega | (simp; done) | (simp; omega)) _)))
    have R0_5 := Lib.hid (stars_lay hb hL5.out R0_4.out)
    have R1_5 := Lib.hid (stars_lay hb hL5.out R1_4.out)
    have R2_5 := Lib.hid (stars_lay hb hL5.out R2_4.out)
    clear hL5 R0_4 R1_4 R2_4
    have hz5 := hb.size
    try simp only [World.size_alloc, World.drewN, World.drew] at hz5
    clear hb
    go_wp2_with fail
    generalize hwn : (w5.alloc (.cells #[.slice none 0 0, .int .i64 (0)] 45)) = w6
    have hbn : Below w5.heap.size w5 w6 := by rw [← hwn]; repeat' (first | exact Below.refl _ _ | refine below_drewN ?_ _ | refine Below.drew ?_ | refine Below.alloc ?_ (by first | omega | (simp; done) | (simp; omega) | (simp [World.setCell]; omega)) _ | refine Below.setCell ?_ (by first | omega | (simp; done) | (simp; omega)) _)
    have HB6 := Lib.hid (show Below w.heap.size w w6 from HB5.out.trans (hbn.mono HB5.out.size))
    have K0_6 := Lib.hid (show Blk w6 (w5.heap.size) 45 #[.slice none 0 0, .int .i64 (0)] by rw [← hwn]; repeat' (first | exact Blk.at_ _ (by first | rfl | (simp; done) | (simp; omega)) _ _ | refine Blk.drewN ?_ _ | refine Blk.drew ?_ | refine Blk.alloc ?_ _ | refine Blk.far ?_ (by first | omega | (simp; done) | (simp; omega)) _ | assumption))
    have R0_6 := Lib.hid (R0_5.out.lay hbn)
    have R1_6 := Lib.hid (R1_5.out.lay hbn)
    have R2_6 := Lib.hid (R2_5.out.lay hbn)
    have HN6 := Lib.hid hbn
    have hz6 := hbn.size
    clear hwn hbn R0_5 R1_5 R2_5
    have l0_6 : w5.heap.size < w6.heap.size := K0_6.out.lt
    have z0_0_6 : w6.cell? ⟨w5.heap.size, 0, none⟩ = some (.slice none 0 0) := K0_6.out.cell 0
    have z0_1_6 : w6.cell? ⟨w5.heap.size, 1, none⟩ = some (.int .i64 (0)) := K0_6.out.cell 1
    refine (rstars_is l A n c T0 C0 H0.out _ R0_6.out (by omega)).mono ?_
    rintro e w7 ⟨rfl, hb⟩
    have HB7 := Lib.hid (show Below w.heap.size w w7 from step_below hb (by repeat' (first | exact Below.refl _ _ | exact HB6.out | refine below_drewN ?_ _ | refine Below.drew ?_ | refine Below.alloc ?_ (by first | omega | (simp; done) | (simp; omega) | (simp [World.setCell]; omega)) _ | refine Below.setCell ?_ (by first | omega | (simp; done) | (simp; omega)) _ | assumption)))
    have K0_7 := Lib.hid (step_blk hb (show Blk _ (w5.heap.size) 45 #[.slice none 0 0, .int .i64 (0)] by repeat' (first | exact K0_6.out | exact Blk.at_ _ (by first | rfl | (simp; done) | (simp; omega)) _ _ | refine Blk.drewN ?_ _ | refine Blk.drew ?_ | refine Blk.alloc ?_ _ | refine Blk.far ?_ (by first | omega | (simp; done) | (simp; omega)) _ | assumption)))
    have hL7 := Lib.hid (show Below w6.heap.size w6 _ from reads_mid hb (by repeat' (first | exact Below.refl _ _ | refine below_drewN ?_ _ | refine Below.drew ?_ | refine Below.alloc ?_ (by first | omega | (simp; done) | (simp; omega) | (simp [World.setCell]; omega)) _ | refine Below.setCell ?_ (by first | omega | (simp; done) | (simp; omega)) _)))
    have R0_7 := Lib.hid (stars_lay hb hL7.out R0_6.out)
    have R1_7 := Lib.hid (stars_lay hb hL7.out R1_6.out)
    have R2_7 := Lib.hid (stars_lay hb hL7.out R2_6.out)
    clear hL7 R0_6 R1_6 R2_6
    have hz7 := hb.size
    try simp only [World.size_alloc, World.drewN, World.drew] at hz7
    clear hb K0_6 z0_0_6 z0_1_6 l0_6
    have l0_7 : w5.heap.size < w7.heap.size := K0_7.out.lt
    have z0_0_7 : w7.cell? ⟨w5.heap.size, 0, none⟩ = some (.slice none 0 0) := K0_7.out.cell 0
    have z0_1_7 : w7.cell? ⟨w5.heap.size, 1, none⟩ = some (.int .i64 (0)) := K0_7.out.cell 1
    go_wp2_with fail
    generalize hwn : (w7.alloc (.cells #[.slice none 0 0, .int .i64 (0)] 45)) = w8
    have hbn : Below w7.heap.size w7 w8 := by rw [← hwn]; repeat' (first | exact Below.refl _ _ | refine below_drewN ?_ _ | refine Below.drew ?_ | refine Below.alloc ?_ (by first | omega | (simp; done) | (simp; omega) | (simp [World.setCell]; omega)) _ | refine Below.setCell ?_ (by first | omega | (simp; done) | (simp; omega)) _)
    have HB8 := Lib.hid (show Below w.heap.size w w8 from HB7.out.trans (hbn.mono HB7.out.size))
    have K0_8 := Lib.hid (step_blk hbn K0_7.out)
    have K1_8 := Lib.hid (show Blk w8 (w7.heap.size) 45 #[.slice none 0 0, .int .i64 (0)] by rw [← hwn]; repeat' (first | exact Blk.at_ _ (by first | rfl | (simp; done) | (simp; omega)) _ _ | refine Blk.drewN ?_ _ | refine Blk.drew ?_ | refine Blk.alloc ?_ _ | refine Blk.far ?_ (by first | omega | (simp; done) | (simp; omega)) _ | assumption))
    have R0_8 := Lib.hid (R0_7.out.lay hbn)
    have R1_8 := Lib.hid (R1_7.out.lay hbn)
    have R2_8 := Lib.hid (R2_7.out.lay hbn)
    have HN8 := Lib.hid hbn
    have hz8 := hbn.size
    clear hwn hbn K0_7 l0_7 z0_0_7 z0_1_7 R0_7 R1_7 R2_7
    have l0_8 : w5.heap.size < w8.heap.size := K0_8.out.lt
    have z0_0_8 : w8.cell? ⟨w5.heap.size, 0, none⟩ = some (.slice none 0 0) := K0_8.out.cell 0
    have z0_1_8 : w8.cell? ⟨w5.heap.size, 1, none⟩ = some (.int .i64 (0)) := K0_8.out.cell 1
    have l1_8 : w7.heap.size < w8.heap.size := K1_8.out.lt
    have z1_0_8 : w8.cell? ⟨w7.heap.size, 0, none⟩ = some (.slice none 0 0) := K1_8.out.cell 0
    have z1_1_8 : w8.cell? ⟨w7.heap.size, 1, none⟩ = some (.int .i64 (0)) := K1_8.out.cell 1
    refine (low (ints_eqd none none 0 0 0 0 [] [] true (by simp) _ 0 0 Reads.none_ Reads.none_ (by omega) (by omega))).mono ?_
    rintro e w9 ⟨rfl, hb⟩
    have HB9 := Lib.hid (show Below w.heap.size w w9 from step_below hb (by repeat' (first | exact Below.refl _ _ | exact HB8.out | refine below_drewN ?_ _ | refine Below.drew ?_ | refine Below.alloc ?_ (by first | omega | (simp; done) | (simp; omega) | (simp [World.setCell]; omega)) _ | refine Below.setCell ?_ (by first | omega | (simp; done) | (simp; omega)) _ | assumption)))
    have K0_9 := Lib.hid (step_blk hb (show Blk _ (w5.heap.size) 45 #[.slice none 0 0, .int .i64 (0)] by repeat' (first | exact K0_8.out | exact K1_8.out | exact Blk.at_ _ (by first | rfl | (simp; done) | (simp; omega)) _ _ | refine Blk.drewN ?_ _ | refine Blk.drew ?_ | refine Blk.alloc ?_ _ | refine Blk.far ?_ (by first | omega | (simp; done) | (simp; omega)) _ | assumption)))
    have K1_9 := Lib.hid (step_blk hb (show Blk _ (w7.heap.size) 45 #[.slice none 0 0, .int .i64 (0)] by repeat' (first | exact K0_8.out | exact K1_8.out | exact Blk.at_ _ (by first | rfl | (simp; done) | (simp; omega)) _ _ | refine Blk.drewN ?_ _ | refine Blk.drew ?_ | refine Blk.alloc ?_ _ | refine Blk.far ?_ (by first | omega | (simp; done) | (simp; omega)) _ | assumption)))
    have hL9 := Lib.hid (show Below w8.heap.size w8 _ from reads_mid hb (by repeat' (first | exact Below.refl _ _ | refine below_drewN ?_ _ | refine Below.drew ?_ | refine Below.alloc ?_ (by first | omega | (simp; done) | (simp; omega) | (simp [World.setCell]; omega)) _ | refine Below.setCell ?_ (by first | omega | (simp; done) | (simp; omega)) _)))
    have R0_9 := Lib.hid (stars_lay hb hL9.out R0_8.out)
    have R1_9 := Lib.hid (stars_lay hb hL9.out R1_8.out)
    have R2_9 := Lib.hid (stars_lay hb hL9.out R2_8.out)
    clear hL9 R0_8 R1_8 R2_8
    have hz9 := hb.size
    try simp only [World.size_alloc, World.drewN, World.drew] at hz9
    clear hb K0_8 K1_8 z0_0_8 z0_1_8 l0_8 z1_0_8 z1_1_8 l1_8
    have l0_9 : w5.heap.size < w9.heap.size := K0_9.out.lt
    have z0_0_9 : w9.cell? ⟨w5.heap.size, 0, none⟩ = some (.slice none 0 0) := K0_9.out.cell 0
    have z0_1_9 : w9.cell? ⟨w5.heap.size, 1, none⟩ = some (.int .i64 (0)) := K0_9.out.cell 1
    have l1_9 : w7.heap.size < w9.heap.size := K1_9.out.lt
    have z1_0_9 : w9.cell? ⟨w7.heap.size, 0, none⟩ = some (.slice none 0 0) := K1_9.out.cell 0
    have z1_1_9 : w9.cell? ⟨w7.heap.size, 1, none⟩ = some (.int .i64 (0)) := K1_9.out.cell 1
    go_wp2_with fail
    refine Fx.regionM (fun W g f w' => Kp (PfM l n [] 0 9 4) W g w') (fun i (x : Pick2) => if i = 4 then .agg #[.slice x.1.1 0 x.1.2, .int .i64 0] else .slice x.1.1 n x.1.2) (by kernel_rfl) ?_ ?_
    · intro f hf0
      exact Kp.start
    first
    | (refine Fx.WM.skip 0 (by rfl) (by kernel_rfl) (by kernel_rfl) (by kernel_rfl) (by rfl) (fun g f w h => h) ?_; simp only [Act.put, List.setIfInBounds_toArray, List.set_cons_zero, List.set_cons_succ])
    | (refine Fx.WM.val_ 0 ?_ (by rfl) (by kernel_rfl) (by kernel_rfl) (by kernel_rfl) (by rfl) ?_ (fun g f w h => h) ?_
       rotate_left
       · intro g f w' hx hD hk
         obtain hkp := id hD
         clear hx hk hD hkp
         go_simp
         try rfl
       simp only [Act.put, List.setIfInBounds_toArray, List.set_cons_zero, List.set_cons_succ])
    first
    | (refine Fx.WM.skip 1 (by rfl) (by kernel_rfl) (by kernel_rfl) (by kernel_rfl) (by rfl) (fun g f w h => h) ?_; simp only [Act.put, List.setIfInBounds_toArray, List.set_cons_zero, List.set_cons_succ])
    | (refine Fx.WM.val_ 1 ?_ (by rfl) (by kernel_rfl) (by kernel_rfl) (by kernel_rfl) (by rfl) ?_ (fun g f w h => h) ?_
       rotate_left
       · intro g f w' hx hD hk
         obtain hkp := id hD
         clear hx hk hD hkp
         go_simp
         try rfl
       simp only [Act.put, List.setIfInBounds_toArray, List.set_cons_zero, List.set_cons_succ])
    first
    | (refine Fx.WM.skip 2 (by rfl) (by kernel_rfl) (by kernel_rfl) (by kernel_rfl) (by rfl) (fun g f w h => h) ?_; simp only [Act.put, List.setIfInBounds_toArray, List.set_cons_zero, List.set_cons_succ])
    | (refine Fx.WM.val_ 2 ?_ (by rfl) (by kernel_rfl) (by kernel_rfl) (by kernel_rfl) (by rfl) ?_ (fun g f w h => h) ?_
       rotate_left
       · intro g f w' hx hD hk
         obtain hkp := id hD
         clear hx hk hD hkp
         go_simp
         try rfl
       simp only [Act.put, List.setIfInBounds_toArray, List.set_cons_zero, List.set_cons_succ])
    first
    | (refine Fx.WM.skip 3 (by rfl) (by kernel_rfl) (by kernel_rfl) (by kernel_rfl) (by rfl) (fun g f w h => h) ?_; simp only [Act.put, List.setIfInBounds_toArray, List.set_cons_zero, List.set_cons_succ])
    | (refine Fx.WM.val_ 3 ?_ (by rfl) (by kernel_rfl) (by kernel_rfl) (by kernel_rfl) (by rfl) ?_ (fun g f w h => h) ?_
       rotate_left
       · intro g f w' hx hD hk
         obtain hkp := id hD
         clear hx hk hD hkp
         go_simp
         try rfl
       simp only [Act.put, List.setIfInBounds_toArray, List.set_cons_zero, List.set_cons_succ])
    first
    | (refine Fx.WM.skip 4 (by rfl) (by kernel_rfl) (by kernel_rfl) (by kernel_rfl) (by rfl) (fun g f w h => h) ?_; simp only [Act.put, List.setIfInBounds_toArray, List.set_cons_zero, List.set_cons_succ])
    | (refine Fx.WM.val_ 4 ?_ (by rfl) (by kernel_rfl) (by kernel_rfl) (by kernel_rfl) (by rfl) ?_ (fun g f w h => h) ?_
       rotate_left
       · intro g f w' hx hD hk
         obtain hkp := id hD
         clear hx hk hD hkp
         go_simp
         try rfl
       simp only [Act.put, List.setIfInBounds_toArray, List.set_cons_zero, List.set_cons_succ])
    first
    | (refine Fx.WM.skip 5 (by rfl) (by kernel_rfl) (by kernel_rfl) (by kernel_rfl) (by rfl) (fun g f w h => h) ?_; simp only [Act.put, List.setIfInBounds_toArray, List.set_cons_zero, List.set_cons_succ])
    | (refine Fx.WM.val_ 5 ?_ (by rfl) (by kernel_rfl) (by kernel_rfl) (by kernel_rfl) (by rfl) ?_ (fun g f w h => h) ?_
       rotate_left
       · intro g f w' hx hD hk
         obtain hkp := id hD
         clear hx hk hD hkp
         go_simp
         try rfl
       simp only [Act.put, List.setIfInBounds_toArray, List.set_cons_zero, List.set_cons_succ])
    first
    | (refine Fx.WM.skip 6 (by rfl) (by kernel_rfl) (by kernel_rfl) (by kernel_rfl) (by rfl) (fun g f w h => h) ?_; simp only [Act.put, List.setIfInBounds_toArray, List.set_cons_zero, List.set_cons_succ])
    | (refine Fx.WM.val_ 6 ?_ (by rfl) (by kernel_rfl) (by kernel_rfl) (by kernel_rfl) (by rfl) ?_ (fun g f w h => h) ?_
       rotate_left
       · intro g f w' hx hD hk
         obtain hkp := id hD
         clear hx hk hD hkp
         go_simp
         try rfl
       simp only [Act.put, List.setIfInBounds_toArray, List.set_cons_zero, List.set_cons_succ])
    first
    | (refine Fx.WM.skip 7 (by rfl) (by kernel_rfl) (by kernel_rfl) (by kernel_rfl) (by rfl) (fun g f w h => h) ?_; simp only [Act.put, List.setIfInBounds_toArray, List.set_cons_zero, List.set_cons_succ])
    | (refine Fx.WM.val_ 7 ?_ (by rfl) (by kernel_rfl) (by kernel_rfl) (by kernel_rfl) (by rfl) ?_ (fun g f w h => h) ?_
       rotate_left
       · intro g f w' hx hD hk
         obtain hkp := id hD
         clear hx hk hD hkp
         go_simp
         try rfl
       simp only [Act.put, List.setIfInBounds_toArray, List.set_cons_zero, List.set_cons_succ])
    first
    | (refine Fx.WM.skip 8 (by rfl) (by kernel_rfl) (by kernel_rfl) (by kernel_rfl) (by rfl) (fun g f w h => h) ?_; simp only [Act.put, List.setIfInBounds_toArray, List.set_cons_zero, List.set_cons_succ])
    | (refine Fx.WM.val_ 8 ?_ (by rfl) (by kernel_rfl) (by kernel_rfl) (by kernel_rfl) (by rfl) ?_ (fun g f w h => h) ?_
       rotate_left
       · intro g f w' hx hD hk
         obtain hkp := id hD
         clear hx hk hD hkp
         go_simp
         try rfl
       simp only [Act.put, List.setIfInBounds_toArray, List.set_cons_zero, List.set_cons_succ])
    first
    | (refine Fx.WM.skip 9 (by rfl) (by kernel_rfl) (by kernel_rfl) (by kernel_rfl) (by rfl) (fun g f w h => h) ?_; simp only [Act.put, List.setIfInBounds_toArray, List.set_cons_zero, List.set_cons_succ])
    | (refine Fx.WM.val_ 9 ?_ (by rfl) (by kernel_rfl) (by kernel_rfl) (by kernel_rfl) (by rfl) ?_ (fun g f w h => h) ?_
       rotate_left
       · intro g f w' hx hD hk
         obtain hkp := id hD
         clear hx hk hD hkp
         go_simp
         try rfl
       simp only [Act.put, List.setIfInBounds_toArray, List.set_cons_zero, List.set_cons_succ])
    first
    | (refine Fx.WM.skip 10 (by rfl) (by kernel_rfl) (by kernel_rfl) (by kernel_rfl) (by rfl) (fun g f w h => h) ?_; simp only [Act.put, List.setIfInBounds_toArray, List.set_cons_zero, List.set_cons_succ])
    | (refine Fx.WM.val_ 10 ?_ (by rfl) (by kernel_rfl) (by kernel_rfl) (by kernel_rfl) (by rfl) ?_ (fun g f w h => h) ?_
       rotate_left
       · intro g f w' hx hD hk
         obtain hkp := id hD
         clear hx hk hD hkp
         go_simp
         try rfl
       simp only [Act.put, List.setIfInBounds_toArray, List.set_cons_zero, List.set_cons_succ])
    first
    | (refine Fx.WM.skip 11 (by rfl) (by kernel_rfl) (by kernel_rfl) (by kernel_rfl) (by rfl) (fun g f w h => h) ?_; simp only [Act.put, List.setIfInBounds_toArray, List.set_cons_zero, List.set_cons_succ])
    | (refine Fx.WM.val_ 11 ?_ (by rfl) (by kernel_rfl) (by kernel_rfl) (by kernel_rfl) (by rfl) ?_ (fun g f w h => h) ?_
       rotate_left
       · intro g f w' hx hD hk
         obtain hkp := id hD
         clear hx hk hD hkp
         go_simp
         try rfl
       simp only [Act.put, List.setIfInBounds_toArray, List.set_cons_zero, List.set_cons_succ])
    first
    | (refine Fx.WM.skip 12 (by rfl) (by kernel_rfl) (by kernel_rfl) (by kernel_rfl) (by rfl) (fun g f w h => h) ?_; simp only [Act.put, List.setIfInBounds_toArray, List.set_cons_zero, List.set_cons_succ])
    | (refine Fx.WM.val_ 12 ?_ (by rfl) (by kernel_rfl) (by kernel_rfl) (by kernel_rfl) (by rfl) ?_ (fun g f w h => h) ?_
       rotate_left
       · intro g f w' hx hD hk
         obtain hkp := id hD
         clear hx hk hD hkp
         go_simp
         try rfl
       simp only [Act.put, List.setIfInBounds_toArray, List.set_cons_zero, List.set_cons_succ])
    first
    | (refine Fx.WM.skip 13 (by rfl) (by kernel_rfl) (by kernel_rfl) (by kernel_rfl) (by rfl) (fun g f w h => h) ?_; simp only [Act.put, List.setIfInBounds_toArray, List.set_cons_zero, List.set_cons_succ])
    | (refine Fx.WM.val_ 13 ?_ (by rfl) (by kernel_rfl) (by kernel_rfl) (by kernel_rfl) (by rfl) ?_ (fun g f w h => h) ?_
       rotate_left
       · intro g f w' hx hD hk
         obtain hkp := id hD
         clear hx hk hD hkp
         go_simp
         try rfl
       simp only [Act.put, List.setIfInBounds_toArray, List.set_cons_zero, List.set_cons_succ])
    first
    | (refine Fx.WM.skip 14 (by rfl) (by kernel_rfl) (by kernel_rfl) (by kernel_rfl) (by rfl) (fun g f w h => h) ?_; simp only [Act.put, List.setIfInBounds_toArray, List.set_cons_zero, List.set_cons_succ])
    | (refine Fx.WM.val_ 14 ?_ (by rfl) (by kernel_rfl) (by kernel_rfl) (by kernel_rfl) (by rfl) ?_ (fun g f w h => h) ?_
       rotate_left
       · intro g f w' hx hD hk
         obtain hkp := id hD
         clear hx hk hD hkp
         go_simp
         try rfl
       simp only [Act.put, List.setIfInBounds_toArray, List.set_cons_zero, List.set_cons_succ])
    first
    | (refine Fx.WM.skip 15 (by rfl) (by kernel_rfl) (by kernel_rfl) (by kernel_rfl) (by rfl) (fun g f w h => h) ?_; simp only [Act.put, List.setIfInBounds_toArray, List.set_cons_zero, List.set_cons_succ])
    | (refine Fx.WM.val_ 15 ?_ (by rfl) (by kernel_rfl) (by kernel_rfl) (by kernel_rfl) (by rfl) ?_ (fun g f w h => h) ?_
       rotate_left
       · intro g f w' hx hD hk
         obtain hkp := id hD
         clear hx hk hD hkp
         go_simp
         try rfl
       simp only [Act.put, List.setIfInBounds_toArray, List.set_cons_zero, List.set_cons_succ])
    refine Fx.WM.nil (by kernel_rfl) ?_
    intro wz hkp
    have hb := hkp.bel
    clear hkp
    obtain ⟨w10, hnm⟩ : ∃ z : World, z = wz := ⟨_, rfl⟩
    subst hnm
    have HB10 := Lib.hid (show Below w.heap.size w w10 from step_below hb (by repeat' (first | exact Below.refl _ _ | exact HB9.out | refine below_drewN ?_ _ | refine Below.drew ?_ | refine Below.alloc ?_ (by first | omega | (simp; done) | (simp; omega) | (simp [World.setCell]; omega)) _ | refine Below.setCell ?_ (by first | omega | (simp; done) | (simp; omega)) _ | assumption)))
    have K0_10 := Lib.hid (step_blk hb (show Blk _ (w5.heap.size) 45 #[.slice none 0 0, .int .i64 (0)] by repeat' (first | exact K0_9.out | exact K1_9.out | exact Blk.at_ _ (by first | rfl | (simp; done) | (simp; omega)) _ _ | refine Blk.drewN ?_ _ | refine Blk.drew ?_ | refine Blk.alloc ?_ _ | refine Blk.far ?_ (by first | omega | (simp; done) | (simp; omega)) _ | assumption)))
    have K1_10 := Lib.hid (step_blk hb (show Blk _ (w7.heap.size) 45 #[.slice none 0 0, .int .i64 (0)] by repeat' (first | exact K0_9.out | exact K1_9.out | exact Blk.at_ _ (by first | rfl | (simp; done) | (simp; omega)) _ _ | refine Blk.drewN ?_ _ | refine Blk.drew ?_ | refine Blk.alloc ?_ _ | refine Blk.far ?_ (by first | omega | (simp; done) | (simp; omega)) _ | assumption)))
    have hL10 := Lib.hid (show Below w9.heap.size w9 _ from reads_mid hb (by repeat' (first | exact Below.refl _ _ | refine below_drewN ?_ _ | refine Below.drew ?_ | refine Below.alloc ?_ (by first | omega | (simp; done) | (simp; omega) | (simp [World.setCell]; omega)) _ | refine Below.setCell ?_ (by first | omega | (simp; done) | (simp; omega)) _)))
    have R0_10 := Lib.hid (stars_lay hb hL10.out R0_9.out)
    have R1_10 := Lib.hid (stars_lay hb hL10.out R1_9.out)
    have R2_10 := Lib.hid (stars_lay hb hL10.out R2_9.out)
    clear hL10 R0_9 R1_9 R2_9
    have hz10 := hb.size
    try simp only [World.size_alloc, World.drewN, World.drew] at hz10
    clear hb K0_9 K1_9 z0_0_9 z0_1_9 l0_9 z1_0_9 z1_1_9 l1_9
    have l0_10 : w5.heap.size < w10.heap.size := K0_10.out.lt
    have z0_0_10 : w10.cell? ⟨w5.heap.size, 0, none⟩ = some (.slice none 0 0) := K0_10.out.cell 0
    have z0_1_10 : w10.cell? ⟨w5.heap.size, 1, none⟩ = some (.int .i64 (0)) := K0_10.out.cell 1
    have l1_10 : w7.heap.size < w10.heap.size := K1_10.out.lt
    have z1_0_10 : w10.cell? ⟨w7.heap.size, 0, none⟩ = some (.slice none 0 0) := K1_10.out.cell 0
    have z1_1_10 : w10.cell? ⟨w7.heap.size, 1, none⟩ = some (.int .i64 (0)) := K1_10.out.cell 1
    go_wp2
    go_ret
    exact ⟨rfl, by repeat' (first | exact Below.refl _ _ | exact HB10.out | refine below_drewN ?_ _ | refine Below.drew ?_ | refine Below.alloc ?_ (by first | omega | (simp; done) | (simp; omega) | (simp [World.setCell]; omega)) _ | refine Below.setCell ?_ (by first | omega | (simp; done) | (simp; omega)) _ | assumption)⟩
  · subst c0
    obtain ⟨⟨⟨T, D⟩, E⟩, hf⟩ : ∃ z, fitF l = z := ⟨_, rfl⟩
    obtain ⟨m, hm⟩ : ∃ m, T.length = m := ⟨_, rfl⟩
    have hm3 : m ≤ 3 ∧ (E = 0 → mdlErr T D = 0 ∧ chkErr l T D = 0) := by
      refine ⟨?_, fun e => (fit_accepted (by rw [H0.out]) (by rw [hf, e])).2⟩
      obtain ⟨s1, -, -, s4⟩ := stars_right H0.out rfl
      obtain ⟨s0, hs0⟩ := List.exists_mem_of_length_pos (show 0 < l.length by omega)
      obtain ⟨-, n1, n3, -⟩ := star_right (s4 s0 hs0)
      have h1 : (fitF l).1.1.length ≤ 3 := by
        unfold fitF
        split
        · simp
        · split
          · simp
          · simpa [fitT] using n3
      rw [hf, ← hm] at *
      exact h1
    have HFF := Lib.hid hf
    have HMM := Lib.hid hm
    have HACC := Lib.hid hm3.2
    have hm3 := hm3.1
    have p1 : ((0 : Int) == 0) = true := by decide
    have q3 : (E != E) = false := by simp
    have q4 : (D != D) = false := by simp
    clear hf hm
    go_wp2_with fail
    refine (pfitB_is HXM.out HFF.out HMM.out A4 n c4 (by rw [HXE.out]) _ R2_4.out).mono ?_
    rintro e w5 ⟨A5, c5, rfl, hb, hT5, hf5⟩
    have HB5 := Lib.hid (show Below w.heap.size w w5 from step_below hb (by repeat' (first | exact Below.refl _ _ | exact HB4.out | refine below_drewN ?_ _ | refine Below.drew ?_ | refine Below.alloc ?_ (by first | omega | (simp; done) | (simp; omega) | (simp [World.setCell]; omega)) _ | refine Below.setCell ?_ (by first | omega | (simp; done) | (simp; omega)) _ | assumption)))
    have hL5 := Lib.hid (show Below w4.heap.size w4 _ from reads_mid hb (by repeat' (first | exact Below.refl _ _ | refine below_drewN ?_ _ | refine Below.drew ?_ | refine Below.alloc ?_ (by first | omega | (simp; done) | (simp; omega) | (simp [World.setCell]; omega)) _ | refine Below.setCell ?_ (by first | omega | (simp; done) | (simp; omega)) _)))
    have R0_5 := Lib.hid (stars_lay hb hL5.out R0_4.out)
    have R1_5 := Lib.hid (stars_lay hb hL5.out R1_4.out)
    have R2_5 := Lib.hid (stars_lay hb hL5.out R2_4.out)
    clear hL5 R0_4 R1_4 R2_4
    have hz5 := hb.size
    try simp only [World.size_alloc, World.drewN, World.drew] at hz5
    clear hb
    have R3_5 := Lib.hid hT5
    clear hT5
    go_wp2_with fail
    generalize hwn : (w5.alloc (.cells #[.slice (A5) (m) c5, .int .i64 (D)] 45)) = w6
    have hbn : Below w5.heap.size w5 w6 := by rw [← hwn]; repeat' (first | exact Below.refl _ _ | refine below_drewN ?_ _ | refine Below.drew ?_ | refine Below.alloc ?_ (by first | omega | (simp; done) | (simp; omega) | (simp [World.setCell]; omega)) _ | refine Below.setCell ?_ (by first | omega | (simp; done) | (simp; omega)) _)
    have HB6 := Lib.hid (show Below w.heap.size w w6 from HB5.out.trans (hbn.mono HB5.out.size))
    have K0_6 := Lib.hid (show Blk w6 (w5.heap.size) 45 #[.slice (A5) (m) c5, .int .i64 (D)] by rw [← hwn]; repeat' (first | exact Blk.at_ _ (by first | rfl | (simp; done) | (simp; omega)) _ _ | refine Blk.drewN ?_ _ | refine Blk.drew ?_ | refine Blk.alloc ?_ _ | refine Blk.far ?_ (by first | omega | (simp; done) | (simp; omega)) _ | assumption))
    have R0_6 := Lib.hid (R0_5.out.lay hbn)
    have R1_6 := Lib.hid (R1_5.out.lay hbn)
    have R2_6 := Lib.hid (R2_5.out.lay hbn)
    have R3_6 := Lib.hid ((R3_5.out.below hbn).more hbn.size)
    have HN6 := Lib.hid hbn
    have hz6 := hbn.size
    clear hwn hbn R0_5 R1_5 R2_5 R3_5
    have l0_6 : w5.heap.size < w6.heap.size := K0_6.out.lt
    have z0_0_6 : w6.cell? ⟨w5.heap.size, 0, none⟩ = some (.slice (A5) (m) c5) := K0_6.out.cell 0
    have z0_1_6 : w6.cell? ⟨w5.heap.size, 1, none⟩ = some (.int .i64 (D)) := K0_6.out.cell 1
    have hb56 : w5.heap.size < w6.heap.size := l0_6
    refine (rstars_is l A n c T0 0 H0.out _ R0_6.out (by omega)).mono ?_
    rintro e w7 ⟨rfl, hb⟩
    have HB7 := Lib.hid (show Below w.heap.size w w7 from step_below hb (by repeat' (first | exact Below.refl _ _ | exact HB6.out | refine below_drewN ?_ _ | refine Below.drew ?_ | refine Below.alloc ?_ (by first | omega | (simp; done) | (simp; omega) | (simp [World.setCell]; omega)) _ | refine Below.setCell ?_ (by first | omega | (simp; done) | (simp; omega)) _ | assumption)))
    have K0_7 := Lib.hid (step_blk hb (show Blk _ (w5.heap.size) 45 #[.slice (A5) (m) c5, .int .i64 (D)] by repeat' (first | exact K0_6.out | exact Blk.at_ _ (by first | rfl | (simp; done) | (simp; omega)) _ _ | refine Blk.drewN ?_ _ | refine Blk.drew ?_ | refine Blk.alloc ?_ _ | refine Blk.far ?_ (by first | omega | (simp; done) | (simp; omega)) _ | assumption)))
    have hL7 := Lib.hid (show Below w6.heap.size w6 _ from reads_mid hb (by repeat' (first | exact Below.refl _ _ | refine below_drewN ?_ _ | refine Below.drew ?_ | refine Below.alloc ?_ (by first | omega | (simp; done) | (simp; omega) | (simp [World.setCell]; omega)) _ | refine Below.setCell ?_ (by first | omega | (simp; done) | (simp; omega)) _)))
    have R0_7 := Lib.hid (stars_lay hb hL7.out R0_6.out)
    have R1_7 := Lib.hid (stars_lay hb hL7.out R1_6.out)
    have R2_7 := Lib.hid (stars_lay hb hL7.out R2_6.out)
    have R3_7 := Lib.hid (reads_lay hb hL7.out R3_6.out)
    clear hL7 R0_6 R1_6 R2_6 R3_6
    have hz7 := hb.size
    try simp only [World.size_alloc, World.drewN, World.drew] at hz7
    clear hb K0_6 z0_0_6 z0_1_6 l0_6
    have l0_7 : w5.heap.size < w7.heap.size := K0_7.out.lt
    have z0_0_7 : w7.cell? ⟨w5.heap.size, 0, none⟩ = some (.slice (A5) (m) c5) := K0_7.out.cell 0
    have z0_1_7 : w7.cell? ⟨w5.heap.size, 1, none⟩ = some (.int .i64 (D)) := K0_7.out.cell 1
    have HT7 := Lib.hid R3_7.out
    go_wp2_with fail
    generalize hwn : (w7.alloc (.cells #[.slice none 0 0, .int .i64 (0)] 45)) = w8
    have hbn : Below w7.heap.size w7 w8 := by rw [← hwn]; repeat' (first | exact Below.refl _ _ | refine below_drewN ?_ _ | refine Below.drew ?_ | refine Below.alloc ?_ (by first | omega | (simp; done) | (simp; omega) | (simp [World.setCell]; omega)) _ | refine Below.setCell ?_ (by first | omega | (simp; done) | (simp; omega)) _)
    have HB8 := Lib.hid (show Below w.heap.size w w8 from HB7.out.trans (hbn.mono HB7.out.size))
    have K0_8 := Lib.hid (step_blk hbn K0_7.out)
    have K1_8 := Lib.hid (show Blk w8 (w7.heap.size) 45 #[.slice none 0 0, .int .i64 (0)] by rw [← hwn]; repeat' (first | exact Blk.at_ _ (by first | rfl | (simp; done) | (simp; omega)) _ _ | refine Blk.drewN ?_ _ | refine Blk.drew ?_ | refine Blk.alloc ?_ _ | refine Blk.far ?_ (by first | omega | (simp; done) | (simp; omega)) _ | assumption))
    have R0_8 := Lib.hid (R0_7.out.lay hbn)
    have R1_8 := Lib.hid (R1_7.out.lay hbn)
    have R2_8 := Lib.hid (R2_7.out.lay hbn)
    have R3_8 := Lib.hid ((R3_7.out.below hbn).more hbn.size)
    have HN8 := Lib.hid hbn
    have hz8 := hbn.size
    clear hwn hbn K0_7 l0_7 z0_0_7 z0_1_7 R0_7 R1_7 R2_7 R3_7
    have l0_8 : w5.heap.size < w8.heap.size := K0_8.out.lt
    have z0_0_8 : w8.cell? ⟨w5.heap.size, 0, none⟩ = some (.slice (A5) (m) c5) := K0_8.out.cell 0
    have z0_1_8 : w8.cell? ⟨w5.heap.size, 1, none⟩ = some (.int .i64 (D)) := K0_8.out.cell 1
    have l1_8 : w7.heap.size < w8.heap.size := K1_8.out.lt
    have z1_0_8 : w8.cell? ⟨w7.heap.size, 0, none⟩ = some (.slice none 0 0) := K1_8.out.cell 0
    have z1_1_8 : w8.cell? ⟨w7.heap.size, 1, none⟩ = some (.int .i64 (0)) := K1_8.out.cell 1
    have hb78 : w7.heap.size < w8.heap.size := l1_8
    refine (rfit_is HFF.out HMM.out A n c (by rw [H0.out]) _ R0_8.out).mono ?_
    rintro e w9 ⟨A9, c9, rfl, hb, hT9, hf9⟩
    have HB9 := Lib.hid (show Below w.heap.size w w9 from step_below hb (by repeat' (first | exact Below.refl _ _ | exact HB8.out | refine below_drewN ?_ _ | refine Below.drew ?_ | refine Below.alloc ?_ (by first | omega | (simp; done) | (simp; omega) | (simp [World.setCell]; omega)) _ | refine Below.setCell ?_ (by first | omega | (simp; done) | (simp; omega)) _ | assumption)))
    have K0_9 := Lib.hid (step_blk hb (show Blk _ (w5.heap.size) 45 #[.slice (A5) (m) c5, .int .i64 (D)] by repeat' (first | exact K0_8.out | exact K1_8.out | exact Blk.at_ _ (by first | rfl | (simp; done) | (simp; omega)) _ _ | refine Blk.drewN ?_ _ | refine Blk.drew ?_ | refine Blk.alloc ?_ _ | refine Blk.far ?_ (by first | omega | (simp; done) | (simp; omega)) _ | assumption)))
    have K1_9 := Lib.hid (step_blk hb (show Blk _ (w7.heap.size) 45 #[.slice none 0 0, .int .i64 (0)] by repeat' (first | exact K0_8.out | exact K1_8.out | exact Blk.at_ _ (by first | rfl | (simp; done) | (simp; omega)) _ _ | refine Blk.drewN ?_ _ | refine Blk.drew ?_ | refine Blk.alloc ?_ _ | refine Blk.far ?_ (by first | omega | (simp; done) | (simp; omega)) _ | assumption)))
    have hL9 := Lib.hid (show Below w8.heap.size w8 _ from reads_mid hb (by repeat' (first | exact Below.refl _ _ | refine below_drewN ?_ _ | refine Below.drew ?_ | refine Below.alloc ?_ (by first | omega | (simp; done) | (simp; omega) | (simp [World.setCell]; omega)) _ | refine Below.setCell ?_ (by first | omega | (simp; done) | (simp; omega)) _)))
    have R0_9 := Lib.hid (stars_lay hb hL9.out R0_8.out)
    have R1_9 := Lib.hid (stars_lay hb hL9.out R1_8.out)
    have R2_9 := Lib.hid (stars_lay hb hL9.out R2_8.out)
    have R3_9 := Lib.hid (reads_lay hb hL9.out R3_8.out)
    clear hL9 R0_8 R1_8 R2_8 R3_8
    have hz9 := hb.size
    try simp only [World.size_alloc, World.drewN, World.drew] at hz9
    clear hb K0_8 K1_8 z0_0_8 z0_1_8 l0_8 z1_0_8 z1_1_8 l1_8
    have l0_9 : w5.heap.size < w9.heap.size := K0_9.out.lt
    have z0_0_9 : w9.cell? ⟨w5.heap.size, 0, none⟩ = some (.slice (A5) (m) c5) := K0_9.out.cell 0
    have z0_1_9 : w9.cell? ⟨w5.heap.size, 1, none⟩ = some (.int .i64 (D)) := K0_9.out.cell 1
    have l1_9 : w7.heap.size < w9.heap.size := K1_9.out.lt
    have z1_0_9 : w9.cell? ⟨w7.heap.size, 0, none⟩ = some (.slice none 0 0) := K1_9.out.cell 0
    have z1_1_9 : w9.cell? ⟨w7.heap.size, 1, none⟩ = some (.int .i64 (0)) := K1_9.out.cell 1
    have zf1_0 := K1_9.out.frozen 0
    have zf1_1 := K1_9.out.frozen 1
    have ne1 : (w5.heap.size = w7.heap.size) = False := eq_false (by omega)
    have ne2 : (w7.heap.size = w5.heap.size) = False := eq_false (by omega)
    go_wp2_with fail
    generalize hw10 : World.setCell (World.setCell _ _ _) _ _ = w10
    have ht10 : Tch (fun g => g = w7.heap.size) w9 w10 := by rw [← hw10]; exact Tch.setCell (p := ⟨w7.heap.size, 1, none⟩) (Tch.setCell (p := ⟨w7.heap.size, 0, none⟩) (Tch.refl (fun g => g = w7.heap.size) w9) (.inl rfl) _) (.inl rfl) _
    have hk1 : Blk w10 w7.heap.size 45 #[.slice A9 m c9, .int .i64 D] := by
      rw [← hw10]
      have := (K1_9.out.set_ 0 (.slice A9 m c9)).set_ 1 (.int .i64 D)
      simpa only [List.setIfInBounds_toArray, List.set_cons_zero, List.set_cons_succ] using this
    have hk0 := ht10.blk K0_9.out (show ¬ w5.heap.size = w7.heap.size by omega)
    have hb10 : Below w.heap.size w w10 := HB9.out.trans (ht10.below (B := w.heap.size) (fun q hq => by have hq : q = w7.heap.size := hq; omega) (by omega))
    have hr0 := (HXW.out).lay hb10
    have hr9 := Tch.readsN ht10 hT9 (fun b o e => by have := hf9 b o e; show ¬ b = w7.heap.size; omega)
    have hr5 := Tch.readsO ht10 R3_9.out HT7.out
    clear hw10 ht10 hf9 hf5 ne1 ne2 hT9
    have HB10 := Lib.hid hb10
    have K0_10 := Lib.hid (show Blk w10 (w5.heap.size) 45 #[.slice (A5) (m) c5, .int .i64 (D)] from hk0)
    have K1_10 := Lib.hid (show Blk w10 (w7.heap.size) 45 #[.slice (A9) (m) c9, .int .i64 (D)] from hk1)
    clear hb10 hk0 hk1
    have l0_10 : w5.heap.size < w10.heap.size := K0_10.out.lt
    have z0_0_10 : w10.cell? ⟨w5.heap.size, 0, none⟩ = some (.slice (A5) (m) c5) := K0_10.out.cell 0
    have z0_1_10 : w10.cell? ⟨w5.heap.size, 1, none⟩ = some (.int .i64 (D)) := K0_10.out.cell 1
    have l1_10 : w7.heap.size < w10.heap.size := K1_10.out.lt
    have z1_0_10 : w10.cell? ⟨w7.heap.size, 0, none⟩ = some (.slice (A9) (m) c9) := K1_10.out.cell 0
    have z1_1_10 : w10.cell? ⟨w7.heap.size, 1, none⟩ = some (.int .i64 (D)) := K1_10.out.cell 1
    have R0_10 := Lib.hid hr0
    clear hr0
    have R1_10 := Lib.hid hr5
    clear hr5
    have R2_10 := Lib.hid hr9
    clear hr9
    refine (low (ints_eqd A5 A9 c5 c9 m m T T true (by simp) _ _ _ R1_10.out R2_10.out (by omega) (by omega))).mono ?_
    rintro e w11 ⟨rfl, hb⟩
    have HB11 := Lib.hid (show Below w.heap.size w w11 from step_below hb (by repeat' (first | exact Below.refl _ _ | exact HB10.out | refine below_drewN ?_ _ | refine Below.drew ?_ | refine Below.alloc ?_ (by first | omega | (simp; done) | (simp; omega) | (simp [World.setCell]; omega)) _ | refine Below.setCell ?_ (by first | omega | (simp; done) | (simp; omega)) _ | assumption)))
    have K0_11 := Lib.hid (step_blk hb (show Blk _ (w5.heap.size) 45 #[.slice (A5) (m) c5, .int .i64 (D)] by repeat' (first | exact K0_10.out | exact K1_10.out | exact Blk.at_ _ (by first | rfl | (simp; done) | (simp; omega)) _ _ | refine Blk.drewN ?_ _ | refine Blk.drew ?_ | refine Blk.alloc ?_ _ | refine Blk.far ?_ (by first | omega | (simp; done) | (simp; omega)) _ | assumption)))
    have K1_11 := Lib.hid (step_blk hb (show Blk _ (w7.heap.size) 45 #[.slice (A9) (m) c9, .int .i64 (D)] by repeat' (first | exact K0_10.out | exact K1_10.out | exact Blk.at_ _ (by first | rfl | (simp; done) | (simp; omega)) _ _ | refine Blk.drewN ?_ _ | refine Blk.drew ?_ | refine Blk.alloc ?_ _ | refine Blk.far ?_ (by first | omega | (simp; done) | (simp; omega)) _ | assumption)))
    have hL11 := Lib.hid (show Below w10.heap.size w10 _ from reads_mid hb (by repeat' (first | exact Below.refl _ _ | refine below_drewN ?_ _ | refine Below.drew ?_ | refine Below.alloc ?_ (by first | omega | (simp; done) | (simp; omega) | (simp [World.setCell]; omega)) _ | refine Below.setCell ?_ (by first | omega | (simp; done) | (simp; omega)) _)))
    have R0_11 := Lib.hid (stars_lay hb hL11.out R0_10.out)
    have R1_11 := Lib.hid (reads_lay hb hL11.out R1_10.out)
    have R2_11 := Lib.hid (reads_lay hb hL11.out R2_10.out)
    clear hL11 R0_10 R1_10 R2_10
    have hz11 := hb.size
    try simp only [World.size_alloc, World.drewN, World.drew] at hz11
    clear hb K0_10 K1_10 z0_0_10 z0_1_10 l0_10 z1_0_10 z1_1_10 l1_10
    have l0_11 : w5.heap.size < w11.heap.size := K0_11.out.lt
    have z0_0_11 : w11.cell? ⟨w5.heap.size, 0, none⟩ = some (.slice (A5) (m) c5) := K0_11.out.cell 0
    have z0_1_11 : w11.cell? ⟨w5.heap.size, 1, none⟩ = some (.int .i64 (D)) := K0_11.out.cell 1
    have l1_11 : w7.heap.size < w11.heap.size := K1_11.out.lt
    have z1_0_11 : w11.cell? ⟨w7.heap.size, 0, none⟩ = some (.slice (A9) (m) c9) := K1_11.out.cell 0
    have z1_1_11 : w11.cell? ⟨w7.heap.size, 1, none⟩ = some (.int .i64 (D)) := K1_11.out.cell 1
    go_wp2_with fail
    by_cases e0 : E = 0
    · subst e0
      obtain ⟨a1, a2⟩ := HACC.out rfl
      have HA1 := Lib.hid a1
      have HA2 := Lib.hid a2
      clear a1 a2
      refine Fx.regionM (fun W g f w' => Kp (PfM l n T m 9 4) W g w') (fun i (x : Pick2) => if i = 4 then .agg #[.slice x.1.1 m x.1.2, .int .i64 D] else .slice x.1.1 n x.1.2) (by kernel_rfl) ?_ ?_
      · intro f hf0
        exact Kp.start
      first
      | (refine Fx.WM.skip 0 (by rfl) (by kernel_rfl) (by kernel_rfl) (by kernel_rfl) (by rfl) (fun g f w h => h) ?_; simp only [Act.put, List.setIfInBounds_toArray, List.set_cons_zero, List.set_cons_succ])
      | (refine Fx.WM.val_ 0 ?_ (by rfl) (by kernel_rfl) (by kernel_rfl) (by kernel_rfl) (by rfl) ?_ (fun g f w h => h) ?_
         rotate_left
         · intro g f w' hx hD hk
           obtain hkp := id hD
           clear hx hk hD hkp
           go_simp
           try rfl
         simp only [Act.put, List.setIfInBounds_toArray, List.set_cons_zero, List.set_cons_succ])
      first
      | (refine Fx.WM.skip 1 (by rfl) (by kernel_rfl) (by kernel_rfl) (by kernel_rfl) (by rfl) (fun g f w h => h) ?_; simp only [Act.put, List.setIfInBounds_toArray, List.set_cons_zero, List.set_cons_succ])
      | (refine Fx.WM.val_ 1 ?_ (by rfl) (by kernel_rfl) (by kernel_rfl) (by kernel_rfl) (by rfl) ?_ (fun g f w h => h) ?_
         rotate_left
         · intro g f w' hx hD hk
           obtain hkp := id hD
           clear hx hk hD hkp
           go_simp
           try rfl
         simp only [Act.put, List.setIfInBounds_toArray, List.set_cons_zero, List.set_cons_succ])
      first
      | (refine Fx.WM.skip 2 (by rfl) (by kernel_rfl) (by kernel_rfl) (by kernel_rfl) (by rfl) (fun g f w h => h) ?_; simp only [Act.put, List.setIfInBounds_toArray, List.set_cons_zero, List.set_cons_succ])
      | (refine Fx.WM.val_ 2 ?_ (by rfl) (by kernel_rfl) (by kernel_rfl) (by kernel_rfl) (by rfl) ?_ (fun g f w h => h) ?_
         rotate_left
         · intro g f w' hx hD hk
           obtain hkp := id hD
           clear hx hk hD hkp
           go_simp
           try rfl
         simp only [Act.put, List.setIfInBounds_toArray, List.set_cons_zero, List.set_cons_succ])
      first
      | (refine Fx.WM.skip 3 (by rfl) (by kernel_rfl) (by kernel_rfl) (by kernel_rfl) (by rfl) (fun g f w h => h) ?_; simp only [Act.put, List.setIfInBounds_toArray, List.set_cons_zero, List.set_cons_succ])
      | (refine Fx.WM.val_ 3 ?_ (by rfl) (by kernel_rfl) (by kernel_rfl) (by kernel_rfl) (by rfl) ?_ (fun g f w h => h) ?_
         rotate_left
         · intro g f w' hx hD hk
           obtain hkp := id hD
           have y0_0 := (K0_11.out.below hkp.bel l0_11).cell 0
           have y0_1 := (K0_11.out.below hkp.bel l0_11).cell 1
           clear hx hk hD hkp
           go_simp
           try rfl
         simp only [Act.put, List.setIfInBounds_toArray, List.set_cons_zero, List.set_cons_succ])
      refine Fx.WM.choose 4 (by rfl) (by kernel_rfl) (by rfl) ?_ ?_
      · skip
        refine Fx.Chooses.call ?_ ?_ (by rfl) ?_ ?_
        rotate_left 2
        · intro w'
          go_simp
          refine ⟨?_, ?_⟩ <;> rfl
        · intro f w' hD hk
          exact (cmodel_any A5 m c5 T D w' ((R1_11.out.below hD.bel).more hD.bel.size) (by omega)).mono fun e w'' ⟨A', c', he, hb, ho⟩ => ⟨((A', c'), (none, 0)), he, hD.choose PfM.stb hb 4 _ ⟨fun e => absurd e (by decide), fun _ => own_reads2 ho⟩⟩
      intro z
      simp only [Act.put, List.setIfInBounds_toArray, List.set_cons_zero, List.set_cons_succ]
      refine Fx.WM.call 5 (.int .i64 (0)) ?_ ?_ (by rfl) (by kernel_rfl) (by kernel_rfl) (by kernel_rfl) (by rfl) ?_ ?_ ?_
      rotate_left 2
      · intro w'
        go_simp
        refine ⟨?_, ?_⟩ <;> rfl
      · intro g f w' hx hD hk
        exact (pmodel_is z.1.1 m z.1.2 T D 0 HA1.out w' ((hD.has 4 z (hx 4 _ (by rfl))).2 rfl) (by omega)).mono fun e w'' ⟨he, hw⟩ => ⟨he, hD.call PfM.stb hw⟩
      simp only [Act.put, List.setIfInBounds_toArray, List.set_cons_zero, List.set_cons_succ]
      first
      | (refine Fx.WM.skip 6 (by rfl) (by kernel_rfl) (by kernel_rfl) (by kernel_rfl) (by rfl) (fun g f w h => h) ?_; simp only [Act.put, List.setIfInBounds_toArray, List.set_cons_zero, List.set_cons_succ])
      | (refine Fx.WM.val_ 6 ?_ (by rfl) (by kernel_rfl) (by kernel_rfl) (by kernel_rfl) (by rfl) ?_ (fun g f w h => h) ?_
         rotate_left
         · intro g f w' hx hD hk
           obtain hkp := id hD
           clear hx hk hD hkp
           go_simp
           try rfl
         simp only [Act.put, List.setIfInBounds_toArray, List.set_cons_zero, List.set_cons_succ])
      first
      | (refine Fx.WM.skip 7 (by rfl) (by kernel_rfl) (by kernel_rfl) (by kernel_rfl) (by rfl) (fun g f w h => h) ?_; simp only [Act.put, List.setIfInBounds_toArray, List.set_cons_zero, List.set_cons_succ])
      | (refine Fx.WM.val_ 7 ?_ (by rfl) (by kernel_rfl) (by kernel_rfl) (by kernel_rfl) (by rfl) ?_ (fun g f w h => h) ?_
         rotate_left
         · intro g f w' hx hD hk
           obtain hkp := id hD
           clear hx hk hD hkp
           go_simp
           try rfl
         simp only [Act.put, List.setIfInBounds_toArray, List.set_cons_zero, List.set_cons_succ])
      first
      | (refine Fx.WM.skip 8 (by rfl) (by kernel_rfl) (by kernel_rfl) (by kernel_rfl) (by rfl) (fun g f w h => h) ?_; simp only [Act.put, List.setIfInBounds_toArray, List.set_cons_zero, List.set_cons_succ])
      | (refine Fx.WM.val_ 8 ?_ (by rfl) (by kernel_rfl) (by kernel_rfl) (by kernel_rfl) (by rfl) ?_ (fun g f w h => h) ?_
         rotate_left
         · intro g f w' hx hD hk
           obtain hkp := id hD
           clear hx hk hD hkp
           go_simp
           try rfl
         simp only [Act.put, List.setIfInBounds_toArray, List.set_cons_zero, List.set_cons_succ])
      first
      | (refine Fx.WM.skip 10 (by rfl) (by kernel_rfl) (by kernel_rfl) (by kernel_rfl) (by rfl) (fun g f w h => h) ?_; simp only [Act.put, List.setIfInBounds_toArray, List.set_cons_zero, List.set_cons_succ])
      | (refine Fx.WM.val_ 10 ?_ (by rfl) (by kernel_rfl) (by kernel_rfl) (by kernel_rfl) (by rfl) ?_ (fun g f w h => h) ?_
         rotate_left
         · intro g f w' hx hD hk
           obtain hkp := id hD
           have y0_0 := (K0_11.out.below hkp.bel l0_11).cell 0
           have y0_1 := (K0_11.out.below hkp.bel l0_11).cell 1
           clear hx hk hD hkp
           go_simp
           try rfl
         simp only [Act.put, List.setIfInBounds_toArray, List.set_cons_zero, List.set_cons_succ])
      refine Fx.WM.choose 9 (by rfl) (by kernel_rfl) (by rfl) ?_ ?_
      · skip
        refine Fx.Chooses.call ?_ ?_ (by rfl) ?_ ?_
        rotate_left 2
        · intro w'
          go_simp
          refine ⟨?_, ?_⟩ <;> rfl
        · intro f w' hD hk
          exact (cstars_any l A n c w' (R0_11.out.lay hD.bel) (by omega) (fun s hs => Nat.le_trans (HF.out s hs) (by decide))).mono fun e w'' ⟨A', c', S', he, hb, hS, ho⟩ => ⟨((A', c'), (none, 0)), he, hD.choose PfM.stb hb 9 _ ⟨fun _ => ⟨S', hS, ho.at_⟩, fun e => absurd e (by decide)⟩⟩
      intro x
      simp only [Act.put, List.setIfInBounds_toArray, List.set_cons_zero, List.set_cons_succ]
      refine Fx.WM.call 11 (.int .i64 (0)) ?_ ?_ (by rfl) (by kernel_rfl) (by kernel_rfl) (by kernel_rfl) (by rfl) ?_ ?_ ?_
      rotate_left 2
      · intro w'
        go_simp
        refine ⟨?_, ?_⟩ <;> rfl
      · intro g f w' hx hD hk
        exact (pcheckfit_like HA2.out x.1.1 x.1.2 A5 c5 w' ((hD.has 9 x (hx 9 _ (by rfl))).1 rfl) ((R1_11.out.below hD.bel).more hD.bel.size) (by omega) (by omega)).mono fun e w'' ⟨he, hw⟩ => ⟨he, hD.call PfM.stb hw⟩
      simp only [Act.put, List.setIfInBounds_toArray, List.set_cons_zero, List.set_cons_succ]
      first
      | (refine Fx.WM.skip 12 (by rfl) (by kernel_rfl) (by kernel_rfl) (by kernel_rfl) (by rfl) (fun g f w h => h) ?_; simp only [Act.put, List.setIfInBounds_toArray, List.set_cons_zero, List.set_cons_succ])
      | (refine Fx.WM.val_ 12 ?_ (by rfl) (by kernel_rfl) (by kernel_rfl) (by kernel_rfl) (by rfl) ?_ (fun g f w h => h) ?_
         rotate_left
         · intro g f w' hx hD hk
           obtain hkp := id hD
           clear hx hk hD hkp
           go_simp
           try rfl
         simp only [Act.put, List.setIfInBounds_toArray, List.set_cons_zero, List.set_cons_succ])
      first
      | (refine Fx.WM.skip 13 (by rfl) (by kernel_rfl) (by kernel_rfl) (by kernel_rfl) (by rfl) (fun g f w h => h) ?_; simp only [Act.put, List.setIfInBounds_toArray, List.set_cons_zero, List.set_cons_succ])
      | (refine Fx.WM.val_ 13 ?_ (by rfl) (by kernel_rfl) (by kernel_rfl) (by kernel_rfl) (by rfl) ?_ (fun g f w h => h) ?_
         rotate_left
         · intro g f w' hx hD hk
           obtain hkp := id hD
           clear hx hk hD hkp
           go_simp
           try rfl
         simp only [Act.put, List.setIfInBounds_toArray, List.set_cons_zero, List.set_cons_succ])
      first
      | (refine Fx.WM.skip 14 (by rfl) (by kernel_rfl) (by kernel_rfl) (by kernel_rfl) (by rfl) (fun g f w h => h) ?_; simp only [Act.put, List.setIfInBounds_toArray, List.set_cons_zero, List.set_cons_succ])
      | (refine Fx.WM.val_ 14 ?_ (by rfl) (by kernel_rfl) (by kernel_rfl) (by kernel_rfl) (by rfl) ?_ (fun g f w h => h) ?_
         rotate_left
         · intro g f w' hx hD hk
           obtain hkp := id hD
           clear hx hk hD hkp
           go_simp
           try rfl
         simp only [Act.put, List.setIfInBounds_toArray, List.set_cons_zero, List.set_cons_succ])
      first
      | (refine Fx.WM.skip 15 (by rfl) (by kernel_rfl) (by kernel_rfl) (by kernel_rfl) (by rfl) (fun g f w h => h) ?_; simp only [Act.put, List.setIfInBounds_toArray, List.set_cons_zero, List.set_cons_succ])
      | (refine Fx.WM.val_ 15 ?_ (by rfl) (by kernel_rfl) (by kernel_rfl) (by kernel_rfl) (by rfl) ?_ (fun g f w h => h) ?_
         rotate_left
         · intro g f w' hx hD hk
           obtain hkp := id hD
           clear hx hk hD hkp
           go_simp
           try rfl
         simp only [Act.put, List.setIfInBounds_toArray, List.set_cons_zero, List.set_cons_succ])
      refine Fx.WM.nil (by kernel_rfl) ?_
      intro wz hkp
      have hb := hkp.bel
      clear hkp
      obtain ⟨w12, hnm⟩ : ∃ z : World, z = wz := ⟨_, rfl⟩
      subst hnm
      have HB12 := Lib.hid (show Below w.heap.size w w12 from step_below hb (by repeat' (first | exact Below.refl _ _ | exact HB11.out | refine below_drewN ?_ _ | refine Below.drew ?_ | refine Below.alloc ?_ (by first | omega | (simp; done) | (simp; omega) | (simp [World.setCell]; omega)) _ | refine Below.setCell ?_ (by first | omega | (simp; done) | (simp; omega)) _ | assumption)))
      have K0_12 := Lib.hid (step_blk hb (show Blk _ (w5.heap.size) 45 #[.slice (A5) (m) c5, .int .i64 (D)] by repeat' (first | exact K0_11.out | exact K1_11.out | exact Blk.at_ _ (by first | rfl | (simp; done) | (simp; omega)) _ _ | refine Blk.drewN ?_ _ | refine Blk.drew ?_ | refine Blk.alloc ?_ _ | refine Blk.far ?_ (by first | omega | (simp; done) | (simp; omega)) _ | assumption)))
      have K1_12 := Lib.hid (step_blk hb (show Blk _ (w7.heap.size) 45 #[.slice (A9) (m) c9, .int .i64 (D)] by repeat' (first | exact K0_11.out | exact K1_11.out | exact Blk.at_ _ (by first | rfl | (simp; done) | (simp; omega)) _ _ | refine Blk.drewN ?_ _ | refine Blk.drew ?_ | refine Blk.alloc ?_ _ | refine Blk.far ?_ (by first | omega | (simp; done) | (simp; omega)) _ | assumption)))
      have hL12 := Lib.hid (show Below w11.heap.size w11 _ from reads_mid hb (by repeat' (first | exact Below.refl _ _ | refine below_drewN ?_ _ | refine Below.drew ?_ | refine Below.alloc ?_ (by first | omega | (simp; done) | (simp; omega) | (simp [World.setCell]; omega)) _ | refine Below.setCell ?_ (by first | omega | (simp; done) | (simp; omega)) _)))
      have R0_12 := Lib.hid (stars_lay hb hL12.out R0_11.out)
      have R1_12 := Lib.hid (reads_lay hb hL12.out R1_11.out)
      have R2_12 := Lib.hid (reads_lay hb hL12.out R2_11.out)
      clear hL12 R0_11 R1_11 R2_11
      have hz12 := hb.size
      try simp only [World.size_alloc, World.drewN, World.drew] at hz12
      clear hb K0_11 K1_11 z0_0_11 z0_1_11 l0_11 z1_0_11 z1_1_11 l1_11
      have l0_12 : w5.heap.size < w12.heap.size := K0_12.out.lt
      have z0_0_12 : w12.cell? ⟨w5.heap.size, 0, none⟩ = some (.slice (A5) (m) c5) := K0_12.out.cell 0
      have z0_1_12 : w12.cell? ⟨w5.heap.size, 1, none⟩ = some (.int .i64 (D)) := K0_12.out.cell 1
      have l1_12 : w7.heap.size < w12.heap.size := K1_12.out.lt
      have z1_0_12 : w12.cell? ⟨w7.heap.size, 0, none⟩ = some (.slice (A9) (m) c9) := K1_12.out.cell 0
      have z1_1_12 : w12.cell? ⟨w7.heap.size, 1, none⟩ = some (.int .i64 (D)) := K1_12.out.cell 1
      go_wp2
      go_ret
      exact ⟨rfl, by repeat' (first | exact Below.refl _ _ | exact HB12.out | refine below_drewN ?_ _ | refine Below.drew ?_ | refine Below.alloc ?_ (by first | omega | (simp; done) | (simp; omega) | (simp [World.setCell]; omega)) _ | refine Below.setCell ?_ (by first | omega | (simp; done) | (simp; omega)) _ | assumption)⟩
    · have p2 : (E != 0) = true := by simpa using e0
      clear e0
      refine Fx.regionM (fun W g f w' => Kp (PfM l n T m 9 4) W g w') (fun i (x : Pick2) => if i = 4 then .agg #[.slice x.1.1 m x.1.2, .int .i64 D] else .slice x.1.1 n x.1.2) (by kernel_rfl) ?_ ?_
      · intro f hf0
        exact Kp.start
      first
      | (refine Fx.WM.skip 0 (by rfl) (by kernel_rfl) (by kernel_rfl) (by kernel_rfl) (by rfl) (fun g f w h => h) ?_; simp only [Act.put, List.setIfInBounds_toArray, List.set_cons_zero, List.set_cons_succ])
      | (refine Fx.WM.val_ 0 ?_ (by rfl) (by kernel_rfl) (by kernel_rfl) (by kernel_rfl) (by rfl) ?_ (fun g f w h => h) ?_
         rotate_left
         · intro g f w' hx hD hk
           obtain hkp := id hD
           clear hx hk hD hkp
           go_simp
           try rfl
         simp only [Act.put, List.setIfInBounds_toArray, List.set_cons_zero, List.set_cons_succ])
      first
      | (refine Fx.WM.skip 1 (by rfl) (by kernel_rfl) (by kernel_rfl) (by kernel_rfl) (by rfl) (fun g f w h => h) ?_; simp only [Act.put, List.setIfInBounds_toArray, List.set_cons_zero, List.set_cons_succ])
      | (refine Fx.WM.val_ 1 ?_ (by rfl) (by kernel_rfl) (by kernel_rfl) (by kernel_rfl) (by rfl) ?_ (fun g f w h => h) ?_
         rotate_left
         · intro g f w' hx hD hk
           obtain hkp := id hD
           clear hx hk hD hkp
           go_simp
           try rfl
         simp only [Act.put, List.setIfInBounds_toArray, List.set_cons_zero, List.set_cons_succ])
      first
      | (refine Fx.WM.skip 2 (by rfl) (by kernel_rfl) (by kernel_rfl) (by kernel_rfl) (by rfl) (fun g f w h => h) ?_; simp only [Act.put, List.setIfInBounds_toArray, List.set_cons_zero, List.set_cons_succ])
      | (refine Fx.WM.val_ 2 ?_ (by rfl) (by kernel_rfl) (by kernel_rfl) (by kernel_rfl) (by rfl) ?_ (fun g f w h => h) ?_
         rotate_left
         · intro g f w' hx hD hk
           obtain hkp := id hD
           clear hx hk hD hkp
           go_simp
           try rfl
         simp only [Act.put, List.setIfInBounds_toArray, List.set_cons_zero, List.set_cons_succ])
      first
      | (refine Fx.WM.skip 3 (by rfl) (by kernel_rfl) (by kernel_rfl) (by kernel_rfl) (by rfl) (fun g f w h => h) ?_; simp only [Act.put, List.setIfInBounds_toArray, List.set_cons_zero, List.set_cons_succ])
      | (refine Fx.WM.val_ 3 ?_ (by rfl) (by kernel_rfl) (by kernel_rfl) (by kernel_rfl) (by rfl) ?_ (fun g f w h => h) ?_
         rotate_left
         · intro g f w' hx hD hk
           obtain hkp := id hD
           clear hx hk hD hkp
           go_simp
           try rfl
         simp only [Act.put, List.setIfInBounds_toArray, List.set_cons_zero, List.set_cons_succ])
      first
      | (refine Fx.WM.skip 4 (by rfl) (by kernel_rfl) (by kernel_rfl) (by kernel_rfl) (by rfl) (fun g f w h => h) ?_; simp only [Act.put, List.setIfInBounds_toArray, List.set_cons_zero, List.set_cons_succ])
      | (refine Fx.WM.val_ 4 ?_ (by rfl) (by kernel_rfl) (by kernel_rfl) (by kernel_rfl) (by rfl) ?_ (fun g f w h => h) ?_
         rotate_left
         · intro g f w' hx hD hk
           obtain hkp := id hD
           clear hx hk hD hkp
           go_simp
           try rfl
         simp only [Act.put, List.setIfInBounds_toArray, List.set_cons_zero, List.set_cons_succ])
      first
      | (refine Fx.WM.skip 5 (by rfl) (by kernel_rfl) (by kernel_rfl) (by kernel_rfl) (by rfl) (fun g f w h => h) ?_; simp only [Act.put, List.setIfInBounds_toArray, List.set_cons_zero, List.set_cons_succ])
      | (refine Fx.WM.val_ 5 ?_ (by rfl) (by kernel_rfl) (by kernel_rfl) (by kernel_rfl) (by rfl) ?_ (fun g f w h => h) ?_
         rotate_left
         · intro g f w' hx hD hk
           obtain hkp := id hD
           clear hx hk hD hkp
           go_simp
           try rfl
         simp only [Act.put, List.setIfInBounds_toArray, List.set_cons_zero, List.set_cons_succ])
      first
      | (refine Fx.WM.skip 6 (by rfl) (by kernel_rfl) (by kernel_rfl) (by kernel_rfl) (by rfl) (fun g f w h => h) ?_; simp only [Act.put, List.setIfInBounds_toArray, List.set_cons_zero, List.set_cons_succ])
      | (refine Fx.WM.val_ 6 ?_ (by rfl) (by kernel_rfl) (by kernel_rfl) (by kernel_rfl) (by rfl) ?_ (fun g f w h => h) ?_
         rotate_left
         · intro g f w' hx hD hk
           obtain hkp := id hD
           clear hx hk hD hkp
           go_simp
           try rfl
         simp only [Act.put, List.setIfInBounds_toArray, List.set_cons_zero, List.set_cons_succ])
      first
      | (refine Fx.WM.skip 7 (by rfl) (by kernel_rfl) (by kernel_rfl) (by kernel_rfl) (by rfl) (fun g f w h => h) ?_; simp only [Act.put, List.setIfInBounds_toArray, List.set_cons_zero, List.set_cons_succ])
      | (refine Fx.WM.val_ 7 ?_ (by rfl) (by kernel_rfl) (by kernel_rfl) (by kernel_rfl) (by rfl) ?_ (fun g f w h => h) ?_
         rotate_left
         · intro g f w' hx hD hk
           obtain hkp := id hD
           clear hx hk hD hkp
           go_simp
           try rfl
         simp only [Act.put, List.setIfInBounds_toArray, List.set_cons_zero, List.set_cons_succ])
      first
      | (refine Fx.WM.skip 8 (by rfl) (by kernel_rfl) (by kernel_rfl) (by kernel_rfl) (by rfl) (fun g f w h => h) ?_; simp only [Act.put, List.setIfInBounds_toArray, List.set_cons_zero, List.set_cons_succ])
      | (refine Fx.WM.val_ 8 ?_ (by rfl) (by kernel_rfl) (by kernel_rfl) (by kernel_rfl) (by rfl) ?_ (fun g f w h => h) ?_
         rotate_left
         · intro g f w' hx hD hk
           obtain hkp := id hD
           clear hx hk hD hkp
           go_simp
           try rfl
         simp only [Act.put, List.setIfInBounds_toArray, List.set_cons_zero, List.set_cons_succ])
      first
      | (refine Fx.WM.skip 9 (by rfl) (by kernel_rfl) (by kernel_rfl) (by kernel_rfl) (by rfl) (fun g f w h => h) ?_; simp only [Act.put, List.setIfInBounds_toArray, List.set_cons_zero, List.set_cons_succ])
      | (refine Fx.WM.val_ 9 ?_ (by rfl) (by kernel_rfl) (by kernel_rfl) (by kernel_rfl) (by rfl) ?_ (fun g f w h => h) ?_
         rotate_left
         · intro g f w' hx hD hk
           obtain hkp := id hD
           clear hx hk hD hkp
           go_simp
           try rfl
         simp only [Act.put, List.setIfInBounds_toArray, List.set_cons_zero, List.set_cons_succ])
      first
      | (refine Fx.WM.skip 10 (by rfl) (by kernel_rfl) (by kernel_rfl) (by kernel_rfl) (by rfl) (fun g f w h => h) ?_; simp only [Act.put, List.setIfInBounds_toArray, List.set_cons_zero, List.set_cons_succ])
      | (refine Fx.WM.val_ 10 ?_ (by rfl) (by kernel_rfl) (by kernel_rfl) (by kernel_rfl) (by rfl) ?_ (fun g f w h => h) ?_
         rotate_left
         · intro g f w' hx hD hk
           obtain hkp := id hD
           clear hx hk hD hkp
           go_simp
           try rfl
         simp only [Act.put, List.setIfInBounds_toArray, List.set_cons_zero, List.set_cons_succ])
      first
      | (refine Fx.WM.skip 11 (by rfl) (by kernel_rfl) (by kernel_rfl) (by kernel_rfl) (by rfl) (fun g f w h => h) ?_; simp only [Act.put, List.setIfInBounds_toArray, List.set_cons_zero, List.set_cons_succ])
      | (refine Fx.WM.val_ 11 ?_ (by rfl) (by kernel_rfl) (by kernel_rfl) (by kernel_rfl) (by rfl) ?_ (fun g f w h => h) ?_
         rotate_left
         · intro g f w' hx hD hk
           obtain hkp := id hD
           clear hx hk hD hkp
           go_simp
           try rfl
         simp only [Act.put, List.setIfInBounds_toArray, List.set_cons_zero, List.set_cons_succ])
      first
      | (refine Fx.WM.skip 12 (by rfl) (by kernel_rfl) (by kernel_rfl) (by kernel_rfl) (by rfl) (fun g f w h => h) ?_; simp only [Act.put, List.setIfInBounds_toArray, List.set_cons_zero, List.set_cons_succ])
      | (refine Fx.WM.val_ 12 ?_ (by rfl) (by kernel_rfl) (by kernel_rfl) (by kernel_rfl) (by rfl) ?_ (fun g f w h => h) ?_
         rotate_left
         · intro g f w' hx hD hk
           obtain hkp := id hD
           clear hx hk hD hkp
           go_simp
           try rfl
         simp only [Act.put, List.setIfInBounds_toArray, List.set_cons_zero, List.set_cons_succ])
      first
      | (refine Fx.WM.skip 13 (by rfl) (by kernel_rfl) (by kernel_rfl) (by kernel_rfl) (by rfl) (fun g f w h => h) ?_; simp only [Act.put, List.setIfInBounds_toArray, List.set_cons_zero, List.set_cons_succ])
      | (refine Fx.WM.val_ 13 ?_ (by rfl) (by kernel_rfl) (by kernel_rfl) (by kernel_rfl) (by rfl) ?_ (fun g f w h => h) ?_
         rotate_left
         · intro g f w' hx hD hk
           obtain hkp := id hD
           clear hx hk hD hkp
           go_simp
           try rfl
         simp only [Act.put, List.setIfInBounds_toArray, List.set_cons_zero, List.set_cons_succ])
      first
      | (refine Fx.WM.skip 14 (by rfl) (by kernel_rfl) (by kernel_rfl) (by kernel_rfl) (by rfl) (fun g f w h => h) ?_; simp only [Act.put, List.setIfInBounds_toArray, List.set_cons_zero, List.set_cons_succ])
      | (refine Fx.WM.val_ 14 ?_ (by rfl) (by kernel_rfl) (by kernel_rfl) (by kernel_rfl) (by rfl) ?_ (fun g f w h => h) ?_
         rotate_left
         · intro g f w' hx hD hk
           obtain hkp := id hD
           clear hx hk hD hkp
           go_simp
           try rfl
         simp only [Act.put, List.setIfInBounds_toArray, List.set_cons_zero, List.set_cons_succ])
      first
      | (refine Fx.WM.skip 15 (by rfl) (by kernel_rfl) (by kernel_rfl) (by kernel_rfl) (by rfl) (fun g f w h => h) ?_; simp only [Act.put, List.setIfInBounds_toArray, List.set_cons_zero, List.set_cons_succ])
      | (refine Fx.WM.val_ 15 ?_ (by rfl) (by kernel_rfl) (by kernel_rfl) (by kernel_rfl) (by rfl) ?_ (fun g f w h => h) ?_
         rotate_left
         · intro g f w' hx hD hk
           obtain hkp := id hD
           clear hx hk hD hkp
           go_simp
           try rfl
         simp only [Act.put, List.setIfInBounds_toArray, List.set_cons_zero, List.set_cons_succ])
      refine Fx.WM.nil (by kernel_rfl) ?_
      intro wz hkp
      have hb := hkp.bel
      clear hkp
      obtain ⟨w12, hnm⟩ : ∃ z : World, z = wz := ⟨_, rfl⟩
      subst hnm
      have HB12 := Lib.hid (show Below w.heap.size w w12 from step_below hb (by repeat' (first | exact Below.refl _ _ | exact HB11.out | refine below_drewN ?_ _ | refine Below.drew ?_ | refine Below.alloc ?_ (by first | omega | (simp; done) | (simp; omega) | (simp [World.setCell]; omega)) _ | refine Below.setCell ?_ (by first | omega | (simp; done) | (simp; omega)) _ | assumption)))
      have K0_12 := Lib.hid (step_blk hb (show Blk _ (w5.heap.size) 45 #[.slice (A5) (m) c5, .int .i64 (D)] by repeat' (first | exact K0_11.out | exact K1_11.out | exact Blk.at_ _ (by first | rfl | (simp; done) | (simp; omega)) _ _ | refine Blk.drewN ?_ _ | refine Blk.drew ?_ | refine Blk.alloc ?_ _ | refine Blk.far ?_ (by first | omega | (simp; done) | (simp; omega)) _ | assumption)))
      have K1_12 := Lib.hid (step_blk hb (show Blk _ (w7.heap.size) 45 #[.slice (A9) (m) c9, .int .i64 (D)] by repeat' (first | exact K0_11.out | exact K1_11.out | exact Blk.at_ _ (by first | rfl | (simp; done) | (simp; omega)) _ _ | refine Blk.drewN ?_ _ | refine Blk.drew ?_ | refine Blk.alloc ?_ _ | refine Blk.far ?_ (by first | omega | (simp; done) | (simp; omega)) _ | assumption)))
      have hL12 := Lib.hid (show Below w11.heap.size w11 _ from reads_mid hb (by repeat' (first | exact Below.refl _ _ | refine below_drewN ?_ _ | refine Below.drew ?_ | refine Below.alloc ?_ (by first | omega | (simp; done) | (simp; omega) | (simp [World.setCell]; omega)) _ | refine Below.setCell ?_ (by first | omega | (simp; done) | (simp; omega)) _)))
      have R0_12 := Lib.hid (stars_lay hb hL12.out R0_11.out)
      have R1_12 := Lib.hid (reads_lay hb hL12.out R1_11.out)
      have R2_12 := Lib.hid (reads_lay hb hL12.out R2_11.out)
      clear hL12 R0_11 R1_11 R2_11
      have hz12 := hb.size
      try simp only [World.size_alloc, World.drewN, World.drew] at hz12
      clear hb K0_11 K1_11 z0_0_11 z0_1_11 l0_11 z1_0_11 z1_1_11 l1_11
      have l0_12 : w5.heap.size < w12.heap.size := K0_12.out.lt
      have z0_0_12 : w12.cell? ⟨w5.heap.size, 0, none⟩ = some (.slice (A5) (m) c5) := K0_12.out.cell 0
      have z0_1_12 : w12.cell? ⟨w5.heap.size, 1, none⟩ = some (.int .i64 (D)) := K0_12.out.cell 1
      have l1_12 : w7.heap.size < w12.heap.size := K1_12.out.lt
      have z1_0_12 : w12.cell? ⟨w7.heap.size, 0, none⟩ = some (.slice (A9) (m) c9) := K1_12.out.cell 0
      have z1_1_12 : w12.cell? ⟨w7.heap.size, 1, none⟩ = some (.int .i64 (D)) := K1_12.out.cell 1
      go_wp2
      go_ret
      exact ⟨rfl, by repeat' (first | exact Below.refl _ _ | exact HB12.out | refine below_drewN ?_ _ | refine Below.drew ?_ | refine Below.alloc ?_ (by first | omega | (simp; done) | (simp; omega) | (simp [World.setCell]; omega)) _ | refine Below.setCell ?_ (by first | omega | (simp; done) | (simp; omega)) _ | assumption)⟩
end Go.Proofs.Ytdidcpealabaiaa

end
