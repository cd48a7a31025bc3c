import Derived.Test.YtmejiafmmmeloaaQ20
import Derived.Test.YtmejiafmmmeloaaQ24
import Derived.BigQuiet
import Derived.Deep.CutBlock

section
/- The least mean square of the program. -/
namespace Go.Proofs.Ytmejiafmmmeloaa
open Go Go.RowKit

/-- The ends of ranges, as they come. -/
def endsI (l : List Rg) : List Int := l.flatMap fun r => [r.1, r.2]
theorem endsI_snoc (l : List Rg) (r : Rg) : endsI (l ++ [r]) = endsI l ++ [r.1, r.2] := by unfold endsI; simp
theorem endsI_len : ∀ l : List Rg, (endsI l).length = 2 * l.length
  | [] => rfl
  | x :: l => by
    have ih := endsI_len l
    unfold endsI at ih ⊢
    rw [List.flatMap_cons, List.length_append, ih]
    simp; omega
theorem endsI_mem {l : List Rg} {x : Int} : x ∈ endsI l ↔ ∃ r ∈ l, x = r.1 ∨ x = r.2 := by
  unfold endsI
  rw [List.mem_flatMap]
  constructor
  · rintro ⟨r, hr, h⟩; exact ⟨r, hr, by simpa using h⟩
  · rintro ⟨r, hr, h⟩; exact ⟨r, hr, by simpa using h⟩
def sortE (l : List Rg) : List Int := sortFI ltO (endsI l)
theorem ends_sorted {l : List Rg} (h : RgIn l) (hn : 1 ≤ l.length) : EndsS l (sortE l) := by
  refine ⟨?_, fun r hr => ⟨?_, ?_, (h r hr).2.2⟩, fun x hx => ?_, ?_⟩
  · have hs := sortF_srt_I (lt := ltO) (fun a b c h1 h2 => by
      have h1 := of_decide_eq_false h1
      have h2 := of_decide_eq_false h2
      exact decide_eq_false (by omega)) (fun a b h1 => by
      have h1 := of_decide_eq_true h1
      exact decide_eq_false (by omega)) (endsI l)
    exact List.Pairwise.imp (fun {a b} hab => by have := of_decide_eq_false hab; omega) hs
  · exact (sortF_mem_I ltO _).2 (endsI_mem.2 ⟨r, hr, .inl rfl⟩)
  · exact (sortF_mem_I ltO _).2 (endsI_mem.2 ⟨r, hr, .inr rfl⟩)
  · exact endsI_mem.1 ((sortF_mem_I ltO _).1 hx)
  · unfold sortE; rw [sortF_len_I, endsI_len]; omega
theorem sortE_len (l : List Rg) : (sortE l).length = 2 * l.length := by unfold sortE; rw [sortF_len_I, endsI_len]
/-- A least mean square. -/
def PickAt (l : List Rg) (p : Int × Int) : Prop := ∃ i, i + 1 < (sortE l).length ∧ pickP l ((sortE l).getD i 0) ((sortE l).getD (i + 1) 0) = some p
theorem info_int6 : (Try.prog.info? 3).map (fun i => (i.zero, i.size, i.bytes)) = some (some (.int .i64 0), 1, 8) := by kernel_rfl
theorem snoc2i_run (B : Nat) (v : Value) (k : Nat) (xs : List Value) (a b : Int) (w : World) (ho : w.ownsRow B 3 1 v k xs) (hB : B ≤ w.heap.size) (hk : k ≤ 10000000) :
    ∃ v' W2, (Builtin.append_ #[36, 36] 36 #[v, .slice (some ⟨w.heap.size, 0, none⟩) 2 2]).run Try.prog (w.alloc (.cells #[.int .i64 a, .int .i64 b] 3)) = .ok v' W2 ∧ W2.ownsRow B 3 1 v' (k + 2) (xs ++ [.int .i64 a, .int .i64 b]) ∧ Below B w W2 := by
  obtain ⟨i0, hi0, hz0, hz1, hz2⟩ := info_parts info_int6
  have hbW : Below B w (w.alloc (.cells #[.int .i64 a, .int .i64 b] 3)) := (Below.refl _ _).alloc hB _
  obtain ⟨v', W2, hrun, o2', hg2, -⟩ := run_append_any (P := Try.prog) (w.alloc (.cells #[.int .i64 a, .int .i64 b] 3)) B 36 36 3 i0 _ 1 8 Try.underlying36 hi0 hz0 hz1 hz2 rfl (by omega) v k _ (ho.alloc _) (w.alloc (.cells #[.int .i64 a, .int .i64 b] 3)).heap.size (some ⟨w.heap.size, 0, none⟩) 2 2 [.int .i64 a, .int .i64 b] (Blk.reads (Blk.new _ _ _) rfl) (by simp [Value.oneCell']) (by unfold maxLen; omega) (by first | omega | (simp; omega)) (by first | omega | (simp; omega))
  exact ⟨v', W2, hrun, o2', hbW.grown hg2 (Nat.le_trans hB hbW.size) (fun g hg => (own_lt ho hg).1)⟩
theorem take_sumL (f : Rg → Int) {l : List Rg} {k : Nat} {r : Rg} (h : l[k]? = some r) : sumL f (l.take (k + 1)) = sumL f (l.take k) + f r := by
  rw [List.take_add_one, h]
  exact sumL_snoc f r _
theorem pickq_in {l : List Rg} (h : RgIn l) (hn : l.length ≤ 10) {lo hi : Int} {k : Nat} (hk : k ≤ l.length) : (0 ≤ sumL (cntP lo hi) (l.take k) ∧ sumL (cntP lo hi) (l.take k) ≤ 10) ∧ (-1000000 ≤ sumL (endP lo hi) (l.take k) ∧ sumL (endP lo hi) (l.take k) ≤ 1000000) ∧ (0 ≤ sumL (sqP lo hi) (l.take k) ∧ sumL (sqP lo hi) (l.take k) ≤ 100000000000) := by
  have hl : (l.take k).length = k := by rw [List.length_take]; omega
  have he : ∀ r ∈ l.take k, -100000 ≤ endP lo hi r ∧ endP lo hi r ≤ 100000 := fun r hr => by
    have h1 := h r (List.mem_of_mem_take hr)
    unfold endP valQ
    by_cases c1 : hi ≤ r.1
    · rw [if_pos c1]; exact h1.1
    · rw [if_neg c1]
      by_cases c2 : r.2 ≤ lo
      · rw [if_pos c2]; exact h1.2.1
      · rw [if_neg c2]; exact ⟨by show (-100000 : Int) ≤ 0; omega, by show (0 : Int) ≤ 100000; omega⟩
  have h1 := sumL_in (f := cntP lo hi) (l := l.take k) (lo := 0) (hi := 1) fun r _ => by unfold cntP; split <;> omega
  have h2 := sumL_in (f := endP lo hi) (l := l.take k) he
  have h3 := sumL_in (f := sqP lo hi) (l := l.take k) (lo := 0) (hi := 10000000000) fun r hr => by
    have h4 := sq_in (m := 100000) (he r hr)
    unfold sqP
    exact ⟨h4.1, by omega⟩
  rw [hl] at h1 h2 h3
  omega
set_option maxRecDepth 100000 in
set_option maxHeartbeats 8000000 in
theorem leastsq_is (A : Option Addr) (n c : Nat) (l : List Rg) (hl : RgIn l) (hn : 1 ≤ n ∧ n ≤ 6) (w : World) (hx : Reads w w.heap.size 2 A n (cells2 l)) :
    Calls Try.prog 16 #[.slice A n c] w fun e w' => (∃ p, PickAt l p ∧ e = .returned (.agg #[.int .i64 (redN p.1 p.2), .int .i64 (redD p.1 p.2)])) ∧ Below w.heap.size w w' := by
  have hln : l.length = n := by have := hx.1; rw [cells2_length] at this; omega
  have HX := Lib.hid hx
  have HL := Lib.hid hl
  have HLN := Lib.hid hln
  clear hx hl hln
  go_enter Try.func16, Try.ntmps16
  go_wp2_with fail
  generalize hwn : (w.alloc (.cells #[.int .i64 (0), .int .i64 (0)] 25)) = w1
  have hbn : Below w.heap.size w w1 := by rw [← hwn]; repeat' (first | exact Below.refl _ _ | refine below_drewN ?_ _ | refine Below.drew ?_ | refine Below.alloc ?_ (by first | omega | (simp; done) | (simp; omega) | (simp [World.setCell]; omega)) _ | refine Below.setCell ?_ (by first | omega | (simp; done) | (simp; omega)) _)
  have HB1 := Lib.hid (show Below w.heap.size w w1 from hbn)
  have K0_1 := Lib.hid (show Blk w1 (w.heap.size) 25 #[.int .i64 (0), .int .i64 (0)] by rw [← hwn]; repeat' (first | exact Blk.at_ _ (by first | rfl | (simp; done) | (simp; omega)) _ _ | refine Blk.drewN ?_ _ | refine Blk.drew ?_ | refine Blk.alloc ?_ _ | refine Blk.far ?_ (by first | omega | (simp; done) | (simp; omega)) _ | assumption))
  have HN1 := Lib.hid hbn
  have hz1 := hbn.size
  clear hwn hbn
  have l0_1 : w.heap.size < w1.heap.size := K0_1.out.lt
  have z0_0_1 : w1.cell? ⟨w.heap.size, 0, none⟩ = some (.int .i64 (0)) := K0_1.out.cell 0
  have z0_1_1 : w1.cell? ⟨w.heap.size, 1, none⟩ = some (.int .i64 (0)) := K0_1.out.cell 1
  go_loopw [4, 20] (fun o x wr => ∃ i : Nat, i ≤ n ∧ x = .int .i64 i ∧ Below w1.heap.size w1 wr ∧ wr.ownsRow w1.heap.size 3 1 o (2 * i) (intsO (endsI (l.take i)))) (fun _ x _ => n - (intOf x).toNat)
  case atStart => exact ⟨0, by omega, rfl, Below.refl _ _, World.ownsRow_nil _ _ _ _⟩
  case round =>
    obtain ⟨i, hi, rfl, hb, ho⟩ := hrel
    obtain ⟨w2, hnm⟩ : ∃ z : World, z = wr := ⟨_, rfl⟩
    subst hnm
    have HB2 := Lib.hid hb
    have HO2 := Lib.hid ho
    have hb2s := hb.size
    clear hb ho
    by_cases hlt : i < n
    rotate_left
    · obtain rfl : n = i := by omega
      obtain ⟨Ae, ce, rfl, -⟩ := own_reads HO2.out
      have ho := HO2.out
      rw [List.take_of_length_le (by rw [HLN.out]; omega)] at ho
      have HO := Lib.hid ho
      have hk2 := K0_1.out.below HB2.out K0_1.out.lt
      have HK2 := Lib.hid hk2
      clear ho HO2 hk2
      go_wp2_with fail
      refine (sort_is w1.heap.size Ae (2 * n) ce (endsI l) ⟨by omega, by omega⟩ _ HO.out).mono ?_
      rintro e w3 ⟨rfl, hb3, ho3⟩
      have hb13 := HB2.out.trans hb3
      have hk3 := K0_1.out.below hb13 K0_1.out.lt
      have hr3 := own_reads2 ho3
      have HB3 := Lib.hid hb13
      have HR3 := Lib.hid (show Reads w3 w3.heap.size 1 Ae (2 * n) ((sortE l).map (.int .i64)) from hr3)
      have HK3 := Lib.hid hk3
      have HE := Lib.hid (ends_sorted HL.out (by rw [HLN.out]; exact hn.1))
      have hb3s := hb13.size
      clear hb3 ho3 hb13 hk3 hr3 HO HK2 HB2
      go_wp2
      go_loopw [7] (fun x wr => ∃ i : Nat, 1 ≤ i ∧ i ≤ 2 * n ∧ x = .int .i64 i ∧ Below w3.heap.size w3 wr ∧ (∀ j, j + 1 < i → pickP l ((sortE l).getD j 0) ((sortE l).getD (j + 1) 0) = none)) (fun x _ => 2 * n - (intOf x).toNat)
      case atStart => exact ⟨1, by omega, by omega, rfl, Below.refl _ _, fun j hj => absurd hj (by omega)⟩
      case round =>
        obtain ⟨i, hi1, hi, rfl, hb, hnone⟩ := hrel
        obtain ⟨w4, hnm⟩ : ∃ z : World, z = wr := ⟨_, rfl⟩
        subst hnm
        have HBJ := Lib.hid hb
        have HNONE := Lib.hid hnone
        have hb4s := hb.size
        have hk4 := HK3.out.below hb HK3.out.lt
        have hbw := HB1.out.trans ((HB3.out.trans (hb.mono hb3s)).mono HB1.out.size)
        clear hb hnone
        by_cases hlt : i < 2 * n
        rotate_left
        · obtain ⟨i0, h1, p, h2⟩ := pick_some HE.out
          rw [sortE_len, HLN.out] at h1
          rw [HNONE.out i0 (by omega)] at h2
          cases h2
        have hii : (i : Int) < ((2 * n : Nat) : Int) := by omega
        have ei := IntWalk.i64_in ((i : Int) + 1) ⟨by omega, by omega⟩
        obtain ⟨j, hj⟩ : ∃ j, j + 1 = i := ⟨i - 1, by omega⟩
        have ej : IntKind.i64.wrap ((i : Int) - 1) = (j : Int) := by rw [show (i : Int) - 1 = (j : Int) by omega]; exact IntWalk.i64_in _ ⟨by omega, by omega⟩
        have hj1 : (i : Int) - 1 = (j : Int) := by omega
        have ej' := IntWalk.i64_in (j : Int) ⟨by omega, by omega⟩
        have hjn' : (j : Int) < 2 * (n : Int) := by omega
        have hii' : (i : Int) < 2 * (n : Int) := by omega
        have hjn : (j : Int) < ((2 * n : Nat) : Int) := by omega
        obtain ⟨eb, eo, lo, hAe, heb, hlo, e0⟩ := HR3.out.int_ (show j < 2 * n by omega)
        obtain ⟨eb', eo', hh, hAe', -, hhi, e1⟩ := HR3.out.int_ hlt
        subst hAe
        obtain ⟨rfl, rfl⟩ : eb = eb' ∧ eo = eo' := by simpa using hAe'
        have e0 := (HBJ.out.cell (p := ⟨eb, eo + j, none⟩) heb).trans e0
        have e1 := (HBJ.out.cell (p := ⟨eb, eo + i, none⟩) heb).trans e1
        have heb4 : eb < w4.heap.size := by omega
        have HLO := Lib.hid (show (sortE l).getD j 0 = lo by rw [List.getD_eq_getElem?_getD, hlo]; rfl)
        have HHI := Lib.hid (show (sortE l).getD (j + 1) 0 = hh by rw [hj, List.getD_eq_getElem?_getD, hhi]; rfl)
        have hloB : -100000 ≤ lo ∧ lo ≤ 100000 := by
          obtain ⟨r, hr, h | h⟩ := HE.out.of lo (List.mem_of_getElem? hlo)
          · rw [h]; exact (HL.out r hr).1
          · rw [h]; exact (HL.out r hr).2.1
        have hhiB : -100000 ≤ hh ∧ hh ≤ 100000 := by
          obtain ⟨r, hr, h | h⟩ := HE.out.of hh (List.mem_of_getElem? hhi)
          · rw [h]; exact (HL.out r hr).1
          · rw [h]; exact (HL.out r hr).2.1
        have HJ := Lib.hid hj
        clear hAe' hlo hhi hj
        have HB4 := Lib.hid hbw
        have K0_4 := Lib.hid (show Blk w4 (w.heap.size) 25 #[.int .i64 (0), .int .i64 (0)] from hk4)
        clear hbw hk4
        have l0_4 : w.heap.size < w4.heap.size := K0_4.out.lt
        have z0_0_4 : w4.cell? ⟨w.heap.size, 0, none⟩ = some (.int .i64 (0)) := K0_4.out.cell 0
        have z0_1_4 : w4.cell? ⟨w.heap.size, 1, none⟩ = some (.int .i64 (0)) := K0_4.out.cell 1
        go_wp2_with fail
        refine Fx.regionW (fun W f w' => Below W.heap.size W w') (by kernel_rfl) (by kernel_rfl) ?_ ?_
        · intro f hf0
          exact below_drewN (Below.refl _ _) 1
        repeat (first
          | (refine Fx.skip_ (by rfl) (fun f w h => h) ?_; simp only [Act.put, List.setIfInBounds_toArray, List.set_cons_zero, List.set_cons_succ])
          | (refine Fx.val_ ?_ (by rfl) ?_ (fun f w h => h) ?_
             rotate_left
             · intro f w' hD hk
               have hb := hD
               have kb0 := step_blk hb (show Blk _ (w.heap.size) 25 #[.int .i64 (0), .int .i64 (0)] by repeat' (first | exact K0_4.out | exact Blk.at_ _ (by first | rfl | (simp; done) | (simp; omega)) _ _ | refine Blk.drewN ?_ _ | refine Blk.drew ?_ | refine Blk.alloc ?_ _ | refine Blk.far ?_ (by first | omega | (simp; done) | (simp; omega)) _ | assumption))
               have y0_0 : w'.cell? ⟨w.heap.size, 0, none⟩ = some (.int .i64 (0)) := kb0.cell 0
               have y0_1 : w'.cell? ⟨w.heap.size, 1, none⟩ = some (.int .i64 (0)) := kb0.cell 1
               have q0 := (hb.cell (p := ⟨eb, eo + j, none⟩) heb4).trans e0
               have q1 := (hb.cell (p := ⟨eb, eo + i, none⟩) heb4).trans e1
               clear kb0
               clear hk hD hb
               go_simp
               try rfl
             simp only [Act.put, List.setIfInBounds_toArray, List.set_cons_zero, List.set_cons_succ]))
        refine Fx.nil_ ?_
        intro f w5 hall hb
        try clear hall
        have HB45 := Lib.hid hb
        have HB5 := Lib.hid (show Below w.heap.size w w5 from step_below hb (by repeat' (first | exact Below.refl _ _ | exact HB4.out | refine below_drewN ?_ _ | refine Below.drew ?_ | refine Below.alloc ?_ (by first | omega | (simp; done) | (simp; omega) | (simp [World.setCell]; omega)) _ | refine Below.setCell ?_ (by first | omega | (simp; done) | (simp; omega)) _ | assumption)))
        have K0_5 := Lib.hid (step_blk hb (show Blk _ (w.heap.size) 25 #[.int .i64 (0), .int .i64 (0)] by repeat' (first | exact K0_4.out | exact Blk.at_ _ (by first | rfl | (simp; done) | (simp; omega)) _ _ | refine Blk.drewN ?_ _ | refine Blk.drew ?_ | refine Blk.alloc ?_ _ | refine Blk.far ?_ (by first | omega | (simp; done) | (simp; omega)) _ | assumption)))
        have hz5 := hb.size
        try simp only [World.size_alloc, World.drewN, World.drew] at hz5
        clear hb K0_4 z0_0_4 z0_1_4 l0_4
        have l0_5 : w.heap.size < w5.heap.size := K0_5.out.lt
        have z0_0_5 : w5.cell? ⟨w.heap.size, 0, none⟩ = some (.int .i64 (0)) := K0_5.out.cell 0
        have z0_1_5 : w5.cell? ⟨w.heap.size, 1, none⟩ = some (.int .i64 (0)) := K0_5.out.cell 1
        have HW5 := HB5
        have HB35 := Lib.hid (HBJ.out.trans (HB45.out.mono HBJ.out.size))
        have hb5s := HB45.out.size
        have K5 := K0_5
        clear e0 e1
        go_wp2
        go_loopw [10, 11, 12, 51] (fun a b d x wr => ∃ k : Nat, k ≤ n ∧ x = .int .i64 k ∧ a = .int .i64 (sumL (cntP lo hh) (l.take k)) ∧ b = .int .i64 (sumL (endP lo hh) (l.take k)) ∧ d = .int .i64 (sumL (sqP lo hh) (l.take k)) ∧ Below w5.heap.size w5 wr) (fun _ _ _ x _ => n - (intOf x).toNat)
        case atStart => exact ⟨0, by omega, rfl, rfl, rfl, rfl, Below.refl _ _⟩
        case round =>
          obtain ⟨k, hk, rfl, rfl, rfl, rfl, hb⟩ := hrel
          obtain ⟨w6, hnm⟩ : ∃ z : World, z = wr := ⟨_, rfl⟩
          subst hnm
          have HB6 := Lib.hid hb
          have hb6s := hb.size
          have hpi := pickq_in HL.out (by rw [HLN.out]; omega) (lo := lo) (hi := hh) (k := k) (by rw [HLN.out]; omega)
          obtain ⟨C, hC⟩ : ∃ C, sumL (cntP lo hh) (l.take k) = C := ⟨_, rfl⟩
          obtain ⟨S, hS⟩ : ∃ S, sumL (endP lo hh) (l.take k) = S := ⟨_, rfl⟩
          obtain ⟨Q, hQ⟩ : ∃ Q, sumL (sqP lo hh) (l.take k) = Q := ⟨_, rfl⟩
          rw [hC, hS, hQ] at hpi
          rw [hC, hS, hQ]
          have HCC := Lib.hid hC
          have HSS := Lib.hid hS
          have HQQ := Lib.hid hQ
          clear hb hC hS hQ
          by_cases hlt2 : k < n
          rotate_left
          · obtain rfl : n = k := by omega
            have hk6 := Blk.below K5.out HB6.out K5.out.lt
            have hbw6 := HW5.out.trans (HB6.out.mono HW5.out.size)
            have htk : l.take n = l := List.take_of_length_le (by rw [HLN.out]; omega)
            have hc := HCC.out
            have hs := HSS.out
            have hq := HQQ.out
            rw [htk] at hc hs hq
            have hji : j + 1 < (sortE l).length := by rw [sortE_len, HLN.out]; have := HJ.out; omega
            have hpk : ∀ p, pickP l lo hh = some p → PickAt l p := fun p hp => ⟨j, hji, by rw [HLO.out, HHI.out]; exact hp⟩
            have hpn : pickP l lo hh = none → ∀ j', j' + 1 < i + 1 → pickP l ((sortE l).getD j' 0) ((sortE l).getD (j' + 1) 0) = none := fun hp j' hj' => by
              by_cases hjj : j' = j
              · rw [hjj, HLO.out, HHI.out]; exact hp
              · exact HNONE.out j' (by have := HJ.out; omega)
            have HB36 := Lib.hid (HB35.out.trans (HB6.out.mono HB35.out.size))
            clear htk HCC HSS HQQ K5
            by_cases hC0 : C = 0
            · have HPA := Lib.hid (show ∃ p, PickAt l p ∧ Ending.returned (.agg #[.int .i64 0, .int .i64 1]) = .returned (.agg #[.int .i64 (redN p.1 p.2), .int .i64 (redD p.1 p.2)]) from ⟨(0, 1), hpk _ (by unfold pickP; rw [hc, if_pos hC0]), by show Ending.returned (.agg #[.int .i64 0, .int .i64 1]) = .returned (.agg #[.int .i64 (redN 0 1), .int .i64 (redD 0 1)]); rw [show redN 0 1 = 0 by decide, show redD 0 1 = 1 by decide]⟩)
              have e9 : ((C : Int) == 0) = true := by simpa using hC0
              clear hc hs hq hpk hpn hC0
              have HB6 := Lib.hid hbw6
              have K0_6 := Lib.hid (show Blk w6 (w.heap.size) 25 #[.int .i64 (0), .int .i64 (0)] from hk6)
              clear hbw6 hk6
              have l0_6 : w.heap.size < w6.heap.size := K0_6.out.lt
              have z0_0_6 : w6.cell? ⟨w.heap.size, 0, none⟩ = some (.int .i64 (0)) := K0_6.out.cell 0
              have z0_1_6 : w6.cell? ⟨w.heap.size, 1, none⟩ = some (.int .i64 (0)) := K0_6.out.cell 1
              have zf0_0 := K0_6.out.frozen 0
              have zf0_1 := K0_6.out.frozen 1
              go_wp2
              exact bodyPost_ret (v := .agg #[.int .i64 0, .int .i64 1]) (by simp [results, Try.results16, go_sem, z0_0_6, z0_1_6, l0_6]) rfl ⟨HPA.out, by repeat' (first | exact Below.refl _ _ | exact HB6.out | refine below_drewN ?_ _ | refine Below.drew ?_ | refine Below.alloc ?_ (by first | omega | (simp; done) | (simp; omega) | (simp [World.setCell]; omega)) _ | refine Below.setCell ?_ (by first | omega | (simp; done) | (simp; omega)) _ | assumption)⟩
            have e9 : ((C : Int) == 0) = false := by simpa using hC0
            obtain ⟨x1, hx1⟩ : ∃ x, lo * C = x := ⟨_, rfl⟩
            obtain ⟨x2, hx2⟩ : ∃ x, hh * C = x := ⟨_, rfl⟩
            have p1 := prod_small (x := lo) (y := C) (X := 100000) (Y := 10) (by omega) (by omega) (by omega) (by omega)
            have p2 := prod_small (x := hh) (y := C) (X := 100000) (Y := 10) (by omega) (by omega) (by omega) (by omega)
            rw [hx1] at p1
            rw [hx2] at p2
            have f1 : IntKind.i64.wrap (lo * C) = x1 := by rw [hx1]; exact IntWalk.i64_in x1 ⟨by omega, by omega⟩
            have f2 : IntKind.i64.wrap (hh * C) = x2 := by rw [hx2]; exact IntWalk.i64_in x2 ⟨by omega, by omega⟩
            by_cases hA : x1 ≤ S
            rotate_left
            · have d1 : decide (x1 ≤ S) = false := by simpa using hA
              have HPN := Lib.hid (hpn (by unfold pickP; rw [hc, hs, if_neg hC0, hx1, hx2, if_neg (fun h => hA h.1)]))
              clear hc hs hq hpk hpn hC0 hx1 hx2 hA hbw6 hk6
              go_wp2
              go_roundw
              case rel => exact ⟨i + 1, by omega, by omega, by go_num, HB36.out, HPN.out⟩
              case measure => simp [intOf]; omega
            have d1 : decide (x1 ≤ S) = true := by simpa using hA
            by_cases hB : S ≤ x2
            rotate_left
            · have d2 : decide (S ≤ x2) = false := by simpa using hB
              have HPN := Lib.hid (hpn (by unfold pickP; rw [hc, hs, if_neg hC0, hx1, hx2, if_neg (fun h => hB h.2)]))
              clear hc hs hq hpk hpn hC0 hx1 hx2 hA hB hbw6 hk6
              go_wp2
              go_roundw
              case rel => exact ⟨i + 1, by omega, by omega, by go_num, HB36.out, HPN.out⟩
              case measure => simp [intOf]; omega
            have d2 : decide (S ≤ x2) = true := by simpa using hB
            obtain ⟨y1, hy1⟩ : ∃ x, C * Q = x := ⟨_, rfl⟩
            obtain ⟨y2, hy2⟩ : ∃ x, S * S = x := ⟨_, rfl⟩
            obtain ⟨y3, hy3⟩ : ∃ x, y1 - y2 = x := ⟨_, rfl⟩
            obtain ⟨y4, hy4⟩ : ∃ x, C * (n : Int) = x := ⟨_, rfl⟩
            have p3 := prod_small (x := C) (y := Q) (X := 10) (Y := 100000000000) (by omega) (by omega) (by omega) (by omega)
            have p4 := sq_in (m := 1000000) hpi.2.1
            have p5 := prod_small (x := C) (y := (n : Int)) (X := 10) (Y := 10) (by omega) (by omega) (by omega) (by omega)
            have p6 := Int.mul_pos (show 0 < C by omega) (show (0 : Int) < n by omega)
            rw [hy1] at p3
            rw [hy2] at p4
            rw [hy4] at p5 p6
            have f3 : IntKind.i64.wrap (C * Q) = y1 := by rw [hy1]; exact IntWalk.i64_in y1 ⟨by omega, by omega⟩
            have f4 : IntKind.i64.wrap (S * S) = y2 := by rw [hy2]; exact IntWalk.i64_in y2 ⟨by omega, by omega⟩
            have f5 : IntKind.i64.wrap (y1 - y2) = y3 := by rw [hy3]; exact IntWalk.i64_in y3 ⟨by omega, by omega⟩
            have f6 : IntKind.i64.wrap (C * (n : Int)) = y4 := by rw [hy4]; exact IntWalk.i64_in y4 ⟨by omega, by omega⟩
            obtain ⟨sn, hsn⟩ : ∃ x, redN y3 y4 = x := ⟨_, rfl⟩
            obtain ⟨sv, hsv⟩ : ∃ x, redD y3 y4 = x := ⟨_, rfl⟩
            have HPA := Lib.hid (show ∃ p, PickAt l p ∧ Ending.returned (.agg #[.int .i64 sn, .int .i64 sv]) = .returned (.agg #[.int .i64 (redN p.1 p.2), .int .i64 (redD p.1 p.2)]) from ⟨(y3, y4), hpk _ (by unfold pickP; rw [hc, hs, hq, if_neg hC0, hx1, hx2, if_pos ⟨hA, hB⟩, hy1, hy2, hy3, HLN.out, hy4]), by rw [← hsn, ← hsv]⟩)
            have HSN := Lib.hid hsn
            have HSV := Lib.hid hsv
            clear hc hs hq hpk hpn hC0 hx1 hx2 hA hB hy1 hy2 hy4 hsn hsv
            have HB6 := Lib.hid hbw6
            have K0_6 := Lib.hid (show Blk w6 (w.heap.size) 25 #[.int .i64 (0), .int .i64 (0)] from hk6)
            clear hbw6 hk6
            have l0_6 : w.heap.size < w6.heap.size := K0_6.out.lt
            have z0_0_6 : w6.cell? ⟨w.heap.size, 0, none⟩ = some (.int .i64 (0)) := K0_6.out.cell 0
            have z0_1_6 : w6.cell? ⟨w.heap.size, 1, none⟩ = some (.int .i64 (0)) := K0_6.out.cell 1
            go_wp2_with fail
            refine (lowestfig_is y3 y4 sn sv HSN.out HSV.out _ (by omega) (by omega) (by omega) (by omega)).mono ?_
            rintro e w7 ⟨rfl, hb⟩
            have HB7 := Lib.hid (show Below w.heap.size w w7 from step_below hb (by repeat' (first | exact Below.refl _ _ | exact HB6.out | refine below_drewN ?_ _ | refine Below.drew ?_ | refine Below.alloc ?_ (by first | omega | (simp; done) | (simp; omega) | (simp [World.setCell]; omega)) _ | refine Below.setCell ?_ (by first | omega | (simp; done) | (simp; omega)) _ | assumption)))
            have K0_7 := Lib.hid (step_blk hb (show Blk _ (w.heap.size) 25 #[.int .i64 (0), .int .i64 (0)] by repeat' (first | exact K0_6.out | exact Blk.at_ _ (by first | rfl | (simp; done) | (simp; omega)) _ _ | refine Blk.drewN ?_ _ | refine Blk.drew ?_ | refine Blk.alloc ?_ _ | refine Blk.far ?_ (by first | omega | (simp; done) | (simp; omega)) _ | assumption)))
            have hz7 := hb.size
            try simp only [World.size_alloc, World.drewN, World.drew] at hz7
            clear hb K0_6 z0_0_6 z0_1_6 l0_6
            have l0_7 : w.heap.size < w7.heap.size := K0_7.out.lt
            have z0_0_7 : w7.cell? ⟨w.heap.size, 0, none⟩ = some (.int .i64 (0)) := K0_7.out.cell 0
            have z0_1_7 : w7.cell? ⟨w.heap.size, 1, none⟩ = some (.int .i64 (0)) := K0_7.out.cell 1
            have zf0_0 := K0_7.out.frozen 0
            have zf0_1 := K0_7.out.frozen 1
            go_wp2
            exact bodyPost_ret (v := .agg #[.int .i64 sn, .int .i64 sv]) (by simp [results, Try.results16, go_sem, z0_0_7, z0_1_7, l0_7]) rfl ⟨HPA.out, by repeat' (first | exact Below.refl _ _ | exact HB7.out | refine below_drewN ?_ _ | refine Below.drew ?_ | refine Below.alloc ?_ (by first | omega | (simp; done) | (simp; omega) | (simp [World.setCell]; omega)) _ | refine Below.setCell ?_ (by first | omega | (simp; done) | (simp; omega)) _ | assumption)⟩
          have hkk : (k : Int) < (n : Int) := by omega
          have ek := IntWalk.i64_in ((k : Int) + 1) ⟨by omega, by omega⟩
          obtain ⟨xb, xo, ⟨r1, r2⟩, hAe2, hxb, hrk, c0, c1⟩ := ((HX.out.below HW5.out).below (HB6.out.mono HW5.out.size)).pair hlt2
          simp only at c0 c1
          subst hAe2
          have hr := HL.out _ (List.mem_of_getElem? hrk)
          simp only at hr
          have t1 := take_sumL (cntP lo hh) hrk
          have t2 := take_sumL (endP lo hh) hrk
          have t3 := take_sumL (sqP lo hh) hrk
          rw [HCC.out] at t1
          rw [HSS.out] at t2
          rw [HQQ.out] at t3
          have f0 := IntWalk.i64_in (C + 1) ⟨by omega, by omega⟩
          have q1 := sq_in (m := 100000) hr.1
          have q2 := sq_in (m := 100000) hr.2.1
          have f1 := IntWalk.i64_in (r1 * r1) ⟨by omega, by omega⟩
          have f2 := IntWalk.i64_in (S + r1) ⟨by omega, by omega⟩
          have f3 := IntWalk.i64_in (Q + r1 * r1) ⟨by omega, by omega⟩
          have g1 := IntWalk.i64_in (r2 * r2) ⟨by omega, by omega⟩
          have g2 := IntWalk.i64_in (S + r2) ⟨by omega, by omega⟩
          have g3 := IntWalk.i64_in (Q + r2 * r2) ⟨by omega, by omega⟩
          clear hrk
          by_cases c1' : hh ≤ r1
          · have v1 : valQ lo hh (r1, r2) = some r1 := by unfold valQ; rw [if_pos c1']
            have T1 := Lib.hid (show sumL (cntP lo hh) (l.take (k + 1)) = C + 1 by rw [t1]; unfold cntP; rw [v1])
            have T2 := Lib.hid (show sumL (endP lo hh) (l.take (k + 1)) = S + r1 by rw [t2]; unfold endP; rw [v1])
            have T3 := Lib.hid (show sumL (sqP lo hh) (l.take (k + 1)) = Q + r1 * r1 by rw [t3]; unfold sqP endP; rw [v1])
            clear t1 t2 t3 v1
            go_wp2
            go_roundw
            case rel => exact ⟨k + 1, by omega, by go_num, by rw [T1.out], by rw [T2.out], by rw [T3.out], HB6.out.alloc hb6s _⟩
            case measure => simp [intOf]; omega
          by_cases c2' : r2 ≤ lo
          · have v1 : valQ lo hh (r1, r2) = some r2 := by unfold valQ; rw [if_neg c1', if_pos c2']
            have T1 := Lib.hid (show sumL (cntP lo hh) (l.take (k + 1)) = C + 1 by rw [t1]; unfold cntP; rw [v1])
            have T2 := Lib.hid (show sumL (endP lo hh) (l.take (k + 1)) = S + r2 by rw [t2]; unfold endP; rw [v1])
            have T3 := Lib.hid (show sumL (sqP lo hh) (l.take (k + 1)) = Q + r2 * r2 by rw [t3]; unfold sqP endP; rw [v1])
            clear t1 t2 t3 v1
            go_wp2
            go_roundw
            case rel => exact ⟨k + 1, by omega, by go_num, by rw [T1.out], by rw [T2.out], by rw [T3.out], HB6.out.alloc hb6s _⟩
            case measure => simp [intOf]; omega
          have v1 : valQ lo hh (r1, r2) = none := by unfold valQ; rw [if_neg c1', if_neg c2']
          have T1 := Lib.hid (show sumL (cntP lo hh) (l.take (k + 1)) = C by rw [t1]; unfold cntP; rw [v1]; exact Int.add_zero _)
          have T2 := Lib.hid (show sumL (endP lo hh) (l.take (k + 1)) = S by rw [t2]; unfold endP; rw [v1]; exact Int.add_zero _)
          have T3 := Lib.hid (show sumL (sqP lo hh) (l.take (k + 1)) = Q by rw [t3]; unfold sqP endP; rw [v1]; exact Int.add_zero _)
          clear t1 t2 t3 v1
          go_wp2
          go_roundw
          case rel => exact ⟨k + 1, by omega, by go_num, by rw [T1.out], by rw [T2.out], by rw [T3.out], HB6.out.alloc hb6s _⟩
          case measure => simp [intOf]; omega
    have hii : (i : Int) < (n : Int) := by omega
    have ei := IntWalk.i64_in ((i : Int) + 1) ⟨by omega, by omega⟩
    obtain ⟨xb, xo, ⟨lo, hi2⟩, hAe, hxb, hri, c0, c1⟩ := ((HX.out.below HB1.out).below (HB2.out.mono HB1.out.size)).pair hlt
    simp only at c0 c1
    subst hAe
    have HS := Lib.hid (show endsI (l.take (i + 1)) = endsI (l.take i) ++ [lo, hi2] by rw [List.take_add_one, hri]; exact endsI_snoc _ _)
    clear hri
    go_upto_region 6 with fail
    generalize hW : w2.alloc _ = w3
    have hb3 : Below w2.heap.size w2 w3 := by rw [← hW]; exact (Below.refl _ _).alloc (Nat.le_refl _) _
    have hk3 : Blk w3 w2.heap.size 54 #[.int .i64 lo, .int .i64 hi2] := by rw [← hW]; exact Blk.new _ _ _
    have z0 := hk3.cell 0
    have z1 := hk3.cell 1
    have hk3l := hk3.lt
    obtain ⟨v', W2, hrun, ho4, hb4⟩ := snoc2i_run w1.heap.size _ (2 * i) _ lo hi2 w3 (own_below HO2.out hb3 (Nat.le_refl _)) (Nat.le_trans hb2s hb3.size) (by omega)
    have HRUN := Lib.hid hrun
    have HO4 := Lib.hid (show W2.ownsRow w1.heap.size 3 1 v' (2 * (i + 1)) (intsO (endsI (l.take (i + 1)))) by rw [HS.out]; unfold intsO at ho4 ⊢; rw [List.map_append]; exact ho4)
    have HB4 := Lib.hid ((HB2.out.trans (hb3.mono hb2s)).trans hb4)
    clear hrun ho4 hb4 hb3 hW hk3
    go_wp2_with (first | (at_builtin; refine wpList_app _ W2 v' rfl _ _ _ rfl _ _ rfl rfl HRUN.out ?_))
    go_roundw
    case rel => exact ⟨i + 1, by omega, by go_num, HB4.out, HO4.out⟩
    case measure => simp [intOf]; omega
end Go.Proofs.Ytmejiafmmmeloaa

end
