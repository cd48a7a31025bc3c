import Derived.Test.YtclnffpfbngjoaaQ27
import Derived.Test.YtclnffpfbngjoaaQ23
import Derived.Test.YtclnffpfbngjoaaQ24
import Derived.Test.YtclnffpfbngjoaaQ28

section
/- Contract of the reference's least costs up to each turn. -/
namespace Go.Proofs.Ytclnffpfbngjoaa
open Go Go.RowKit

theorem RightL.ne {m : Mnt} {day pos : Int} {l : List Tgt} (h : RightL m day pos l) : ∀ t ∈ l, 0 < (turnsV m day t).length := fun t ht => turns_pos (h.each t ht).2
/-- A row under way. -/
def rowD (d : List Int) (j : Nat) (i : Nat) : Value := .int .i64 (if i < j then (d[i]?).getD 0 else 0)
theorem rowD_step {d : List Int} {j : Nat} {v : Int} (h : d[j]? = some v) (i : Nat) : (if i = j then (.int .i64 v : Value) else rowD d j i) = rowD d (j + 1) i := by
  unfold rowD
  by_cases e : i = j
  · subst e; rw [if_pos rfl, if_pos (by omega), h]; rfl
  · rw [if_neg e]
    by_cases h2 : i < j
    · rw [if_pos h2, if_pos (by omega)]
    · rw [if_neg h2, if_neg (by omega)]
/-- A row under way whose place j holds x. -/
def rowR (d : List Int) (j : Nat) (x : Int) (i : Nat) : Value := if i = j then .int .i64 x else rowD d j i
theorem rowR_zero (d : List Int) (j i : Nat) : rowD d j i = rowR d j 0 i := by
  unfold rowR
  by_cases e : i = j
  · subst e; rw [if_pos rfl]; unfold rowD; rw [if_neg (by omega)]
  · rw [if_neg e]
theorem rowR_set (d : List Int) (j : Nat) (x y : Int) (i : Nat) : (if i = j then (.int .i64 y : Value) else rowR d j x i) = rowR d j y i := by
  unfold rowR
  by_cases e : i = j
  · rw [if_pos e, if_pos e]
  · rw [if_neg e, if_neg e, if_neg e]
def PfO (q : Nat) (ks : List Int) (ki B : Nat) (i : Nat) (x : Pick2) (w : World) : Prop := i = ki → w.ownsRow B 3 1 (.slice x.1.1 q x.1.2) q (ks.map (.int .i64))
theorem PfO.stb {q : Nat} {ks : List Int} {ki B : Nat} : Stb (PfO q ks ki B) := fun _ _ _ _ hb h e => own_below (h e) hb (Nat.le_refl _)
set_option maxRecDepth 100000 in
set_option maxHeartbeats 8000000 in
theorem rdist_is (m : Mnt) (day pos : Int) (l : List Tgt) (A : Option Addr) (n c : Nat) (hR : RightL m day pos l) (w : World) (hx : MntAt m w) (hl : Reads w w.heap.size 6 A n (tgtCells l)) :
    Calls Try.prog 79 #[m.val, .slice A n c, .agg #[.int .i64 day, .int .i64 pos]] w fun e w' => ∃ A' c' ts, e = .returned (.slice A' n c') ∧ Below w.heap.size w w' ∧ RowsOwn w.heap.size ts (.slice A' n c') n w' ∧ ts.map TRow.xs = (List.range n).map fun i => dpB m day pos l (i + 1) := by
  obtain ⟨⟨q1, q2, q3, q4⟩, -⟩ := mnt_right hR.mnt0
  obtain ⟨r3, r4⟩ := hR.pos0
  have q5 := r3
  have q6 := r4
  have hll := hl.tlen
  have hn20 : n ≤ 20 := by have := hR.len; omega
  have hposR : PosR pos := by unfold PosR; omega
  obtain ⟨i0, hi0, hz0, hz1, hz2⟩ := info_parts info_ints
  have HI0 := Lib.hid hi0
  have HZ0 := Lib.hid hz0
  have HZ1 := Lib.hid hz1
  have HZ2 := Lib.hid hz2
  have HX := Lib.hid hx
  have HL := Lib.hid hl
  have HLL := Lib.hid hll
  have HM := Lib.hid hR.mnt0
  have HD := Lib.hid hR.day0
  have HEA := Lib.hid hR.each
  have HNE := Lib.hid hR.ne
  clear hx hl hll hi0 hz0 hz1 hz2 hR r3 r4
  unfold Mnt.val
  go_enter Try.func79, Try.ntmps79
  go_wp2
  generalize hwn : ((w.alloc (.cells #[.int .i64 (m.ls), .int .i64 (m.ms), .int .i64 (m.lo), .int .i64 (m.hi), .int .i64 (m.sp), .slice m.A1 m.n1 m.c1, .slice m.A2 m.n2 m.c2] 24)).alloc (.cells #[.int .i64 (day), .int .i64 (pos)] 26)) = w1
  have hbn : Below w.heap.size w w1 := by rw [← hwn]; repeat' (first | exact Below.refl _ _ | refine below_drewN ?_ _ | refine Below.drew ?_ | refine Below.alloc ?_ (by first | omega | (simp; done) | (simp; omega) | (simp [World.setCell]; omega)) _ | refine Below.setCell ?_ (by first | omega | (simp; done) | (simp; omega)) _)
  have HB1 := Lib.hid (show Below w.heap.size w w1 from hbn)
  have K0_1 := Lib.hid (show Blk w1 (w.heap.size) 24 #[.int .i64 (m.ls), .int .i64 (m.ms), .int .i64 (m.lo), .int .i64 (m.hi), .int .i64 (m.sp), .slice m.A1 m.n1 m.c1, .slice m.A2 m.n2 m.c2] by rw [← hwn]; repeat' (first | exact Blk.at_ _ (by first | rfl | (simp; done) | (simp; omega)) _ _ | refine Blk.drewN ?_ _ | refine Blk.drew ?_ | refine Blk.alloc ?_ _ | refine Blk.far ?_ (by first | omega | (simp; done) | (simp; omega)) _ | assumption))
  have K1_1 := Lib.hid (show Blk w1 (w.heap.size + 1) 26 #[.int .i64 (day), .int .i64 (pos)] by rw [← hwn]; repeat' (first | exact Blk.at_ _ (by first | rfl | (simp; done) | (simp; omega)) _ _ | refine Blk.drewN ?_ _ | refine Blk.drew ?_ | refine Blk.alloc ?_ _ | refine Blk.far ?_ (by first | omega | (simp; done) | (simp; omega)) _ | assumption))
  have HN1 := Lib.hid hbn
  have hz1 := hbn.size
  clear hwn hbn
  have l0_1 : w.heap.size < w1.heap.size := K0_1.out.lt
  have z0_0_1 : w1.cell? ⟨w.heap.size, 0, none⟩ = some (.int .i64 (m.ls)) := K0_1.out.cell 0
  have z0_1_1 : w1.cell? ⟨w.heap.size, 1, none⟩ = some (.int .i64 (m.ms)) := K0_1.out.cell 1
  have z0_2_1 : w1.cell? ⟨w.heap.size, 2, none⟩ = some (.int .i64 (m.lo)) := K0_1.out.cell 2
  have z0_3_1 : w1.cell? ⟨w.heap.size, 3, none⟩ = some (.int .i64 (m.hi)) := K0_1.out.cell 3
  have z0_4_1 : w1.cell? ⟨w.heap.size, 4, none⟩ = some (.int .i64 (m.sp)) := K0_1.out.cell 4
  have z0_5_1 : w1.cell? ⟨w.heap.size, 5, none⟩ = some (.slice m.A1 m.n1 m.c1) := K0_1.out.cell 5
  have z0_6_1 : w1.cell? ⟨w.heap.size, 6, none⟩ = some (.slice m.A2 m.n2 m.c2) := K0_1.out.cell 6
  have l1_1 : w.heap.size + 1 < w1.heap.size := K1_1.out.lt
  have z1_0_1 : w1.cell? ⟨w.heap.size + 1, 0, none⟩ = some (.int .i64 (day)) := K1_1.out.cell 0
  have z1_1_1 : w1.cell? ⟨w.heap.size + 1, 1, none⟩ = some (.int .i64 (pos)) := K1_1.out.cell 1
  go_loopw [7, 8] (fun o i wr => ∃ (k : Nat) (ts : List TRow), k ≤ n ∧ i = .int .i64 k ∧ Below w1.heap.size w1 wr ∧ ts.map TRow.xs = (List.range k).map (fun i => dpB m day pos l (i + 1)) ∧ RowsOwn w1.heap.size ts o k wr) (fun _ i _ => n - (intOf i).toNat)
  case atStart => exact ⟨0, [], by omega, rfl, Below.refl _ _, rfl, ⟨World.ownsRow_nil _ _ _ _, by simp⟩⟩
  case round =>
    obtain ⟨k, ts, hk, rfl, hb2, hts, ho⟩ := hrel
    obtain ⟨w2, hnm⟩ : ∃ z : World, z = wr := ⟨_, rfl⟩
    subst hnm
    have HB12 := Lib.hid hb2
    have HTS := Lib.hid hts
    have HO := Lib.hid ho
    clear hb2 hts ho
    by_cases hlt : k < n
    rotate_left
    · obtain rfl : n = k := by omega
      obtain ⟨A1, c1, rfl, -⟩ := own_reads HO.out.row
      have hbw := HB1.out.trans (HB12.out.mono HB1.out.size)
      have HBW := Lib.hid hbw
      have hsw := HB1.out.size
      have HRO := Lib.hid (show RowsOwn w.heap.size ts (.slice A1 n c1) n w2 from ⟨own_mono HO.out.row hsw, fun r hr => own_mono (HO.out.each r hr) hsw⟩)
      clear hbw
      go_wp2
      go_ret
      exact ⟨A1, c1, ts, rfl, HBW.out, HRO.out, HTS.out⟩
    have hb1 := HB12.out
    have hk0 := Blk.below K0_1.out hb1 l0_1
    have hk1 := Blk.below K1_1.out hb1 l1_1
    have hbw := HB1.out.trans (hb1.mono HB1.out.size)
    have hxm := HX.out.lay hbw
    have HBW2 := Lib.hid hbw
    have HB1_2 := Lib.hid hb1
    have hsz2 := hbw.size
    clear hb1
    have HB2 := Lib.hid hbw
    have K0_2 := Lib.hid (show Blk w2 (w.heap.size) 24 #[.int .i64 (m.ls), .int .i64 (m.ms), .int .i64 (m.lo), .int .i64 (m.hi), .int .i64 (m.sp), .slice m.A1 m.n1 m.c1, .slice m.A2 m.n2 m.c2] from hk0)
    have K1_2 := Lib.hid (show Blk w2 (w.heap.size + 1) 26 #[.int .i64 (day), .int .i64 (pos)] from hk1)
    clear hbw hk0 hk1
    have l0_2 : w.heap.size < w2.heap.size := K0_2.out.lt
    have z0_0_2 : w2.cell? ⟨w.heap.size, 0, none⟩ = some (.int .i64 (m.ls)) := K0_2.out.cell 0
    have z0_1_2 : w2.cell? ⟨w.heap.size, 1, none⟩ = some (.int .i64 (m.ms)) := K0_2.out.cell 1
    have z0_2_2 : w2.cell? ⟨w.heap.size, 2, none⟩ = some (.int .i64 (m.lo)) := K0_2.out.cell 2
    have z0_3_2 : w2.cell? ⟨w.heap.size, 3, none⟩ = some (.int .i64 (m.hi)) := K0_2.out.cell 3
    have z0_4_2 : w2.cell? ⟨w.heap.size, 4, none⟩ = some (.int .i64 (m.sp)) := K0_2.out.cell 4
    have z0_5_2 : w2.cell? ⟨w.heap.size, 5, none⟩ = some (.slice m.A1 m.n1 m.c1) := K0_2.out.cell 5
    have z0_6_2 : w2.cell? ⟨w.heap.size, 6, none⟩ = some (.slice m.A2 m.n2 m.c2) := K0_2.out.cell 6
    have l1_2 : w.heap.size + 1 < w2.heap.size := K1_2.out.lt
    have z1_0_2 : w2.cell? ⟨w.heap.size + 1, 0, none⟩ = some (.int .i64 (day)) := K1_2.out.cell 0
    have z1_1_2 : w2.cell? ⟨w.heap.size + 1, 1, none⟩ = some (.int .i64 (pos)) := K1_2.out.cell 1
    have R0_2 := Lib.hid hxm
    clear hxm
    obtain ⟨xb, xo, t, hAx, hxb, ht, c0, c1, c2, c3, c4, c5⟩ := HL.out.tgt hlt
    have HCW := Lib.hid (show TgtCells xb (xo + k * 6) t w from ⟨c0, c1, c2, c3, c4, c5⟩)
    have hxb2 : xb < w2.heap.size := by omega
    subst hAx
    obtain ⟨te1, te2⟩ := HEA.out t (List.mem_of_getElem? ht)
    obtain ⟨X, Y, hA⟩ : ∃ X Y, appF m t day = (X, Y) := ⟨_, _, rfl⟩
    obtain ⟨L, F, hTA⟩ : ∃ L F, turnsAt m X Y = (L, F) := ⟨_, _, rfl⟩
    obtain ⟨q, hq⟩ : ∃ q, L.length = q := ⟨_, rfl⟩
    obtain ⟨hV, hVP⟩ := turnsV_eq hA hTA
    have hq43 : q ≤ 43 := by have := turnsAt_len43 hTA; omega
    have hkk : (k : Int) < (n : Int) := by omega
    have hmk : ∀ w : World, (Instr.makeSlice 31 (.int .i64 (q : Int)) (.int .i64 (q : Int))).run Try.prog w = .ok (.slice (some ⟨w.heap.size, 0, none⟩) q q) (w.alloc (.cells ((List.range q).map fun _ => Value.int .i64 0).toArray 3)) := fun w => by
      obtain ⟨i0, hi0, hz0, hz1, hz2⟩ := info_parts info_int
      have := run_make_rowN (P := Try.prog) 31 3 i0 _ Try.underlying31 hi0 hz0 .i64 .i64 q q (Nat.le_refl _) (by rw [hz2]; omega) (by omega) w
      rw [this, hz1, Nat.mul_one]
      rw [show (Value.int .i64 0).cells = #[.int .i64 0] from rfl, made_one]
    have HA := Lib.hid hA
    have HTA := Lib.hid hTA
    have HQ := Lib.hid hq
    have HE1 := Lib.hid te1
    have HTT := Lib.hid ht
    have HV := Lib.hid hV
    have HVP := Lib.hid hVP
    clear ht te1 te2 hA hTA hq hV hVP c0 c1 c2 c3 c4 c5
    have C0_2 := Lib.hid ((HBW2.out.cell (p := ⟨xb, xo + k * 6, none⟩) hxb).trans HCW.out.1)
    have C1_2 := Lib.hid ((HBW2.out.cell (p := ⟨xb, xo + k * 6 + 1, none⟩) hxb).trans HCW.out.2.1)
    have C2_2 := Lib.hid ((HBW2.out.cell (p := ⟨xb, xo + k * 6 + 2, none⟩) hxb).trans HCW.out.2.2.1)
    have C3_2 := Lib.hid ((HBW2.out.cell (p := ⟨xb, xo + k * 6 + 3, none⟩) hxb).trans HCW.out.2.2.2.1)
    have C4_2 := Lib.hid ((HBW2.out.cell (p := ⟨xb, xo + k * 6 + 4, none⟩) hxb).trans HCW.out.2.2.2.2.1)
    have C5_2 := Lib.hid ((HBW2.out.cell (p := ⟨xb, xo + k * 6 + 5, none⟩) hxb).trans HCW.out.2.2.2.2.2)
    go_wp2
    refine Fx.regionM (fun W g f w' => Kp (PfQ m q L 97 7) W g w') (fun i (x : Pick2) => .tuple #[.slice x.1.1 q x.1.2, .int .i64 F]) (by kernel_rfl) ?_ ?_
    · intro f hf0
      exact Kp.start
    first
    | (refine Fx.WM.skip 0 (by rfl) (by kernel_rfl) (by kernel_rfl) (by kernel_rfl) (by rfl) (fun g f w h => h) ?_; simp only [Act.put, List.setIfInBounds_toArray, List.set_cons_zero, List.set_cons_succ])
    | (refine Fx.WM.val_ 0 ?_ (by rfl) (by kernel_rfl) (by kernel_rfl) (by kernel_rfl) (by rfl) ?_ (fun g f w h => h) ?_
       rotate_left
       · intro g f w' hx hD hk
         obtain hkp := id hD
         have y0_0 := (K0_2.out.below hkp.bel l0_2).cell 0
         have y0_1 := (K0_2.out.below hkp.bel l0_2).cell 1
         have y0_2 := (K0_2.out.below hkp.bel l0_2).cell 2
         have y0_3 := (K0_2.out.below hkp.bel l0_2).cell 3
         have y0_4 := (K0_2.out.below hkp.bel l0_2).cell 4
         have y0_5 := (K0_2.out.below hkp.bel l0_2).cell 5
         have y0_6 := (K0_2.out.below hkp.bel l0_2).cell 6
         clear hx hk hD hkp
         go_simp
         try rfl
       simp only [Act.put, List.setIfInBounds_toArray, List.set_cons_zero, List.set_cons_succ])
    first
    | (refine Fx.WM.skip 1 (by rfl) (by kernel_rfl) (by kernel_rfl) (by kernel_rfl) (by rfl) (fun g f w h => h) ?_; simp only [Act.put, List.setIfInBounds_toArray, List.set_cons_zero, List.set_cons_succ])
    | (refine Fx.WM.val_ 1 ?_ (by rfl) (by kernel_rfl) (by kernel_rfl) (by kernel_rfl) (by rfl) ?_ (fun g f w h => h) ?_
       rotate_left
       · intro g f w' hx hD hk
         obtain hkp := id hD
         clear hx hk hD hkp
         go_simp
         try rfl
       simp only [Act.put, List.setIfInBounds_toArray, List.set_cons_zero, List.set_cons_succ])
    first
    | (refine Fx.WM.skip 2 (by rfl) (by kernel_rfl) (by kernel_rfl) (by kernel_rfl) (by rfl) (fun g f w h => h) ?_; simp only [Act.put, List.setIfInBounds_toArray, List.set_cons_zero, List.set_cons_succ])
    | (refine Fx.WM.val_ 2 ?_ (by rfl) (by kernel_rfl) (by kernel_rfl) (by kernel_rfl) (by rfl) ?_ (fun g f w h => h) ?_
       rotate_left
       · intro g f w' hx hD hk
         obtain hkp := id hD
         clear hx hk hD hkp
         go_simp
         try rfl
       simp only [Act.put, List.setIfInBounds_toArray, List.set_cons_zero, List.set_cons_succ])
    first
    | (refine Fx.WM.skip 3 (by rfl) (by kernel_rfl) (by kernel_rfl) (by kernel_rfl) (by rfl) (fun g f w h => h) ?_; simp only [Act.put, List.setIfInBounds_toArray, List.set_cons_zero, List.set_cons_succ])
    | (refine Fx.WM.val_ 3 ?_ (by rfl) (by kernel_rfl) (by kernel_rfl) (by kernel_rfl) (by rfl) ?_ (fun g f w h => h) ?_
       rotate_left
       · intro g f w' hx hD hk
         obtain hkp := id hD
         clear hx hk hD hkp
         go_simp
         try rfl
       simp only [Act.put, List.setIfInBounds_toArray, List.set_cons_zero, List.set_cons_succ])
    first
    | (refine Fx.WM.skip 4 (by rfl) (by kernel_rfl) (by kernel_rfl) (by kernel_rfl) (by rfl) (fun g f w h => h) ?_; simp only [Act.put, List.setIfInBounds_toArray, List.set_cons_zero, List.set_cons_succ])
    | (refine Fx.WM.val_ 4 ?_ (by rfl) (by kernel_rfl) (by kernel_rfl) (by kernel_rfl) (by rfl) ?_ (fun g f w h => h) ?_
       rotate_left
       · intro g f w' hx hD hk
         obtain hkp := id hD
         have yc0 := (hkp.bel.cell (p := ⟨xb, xo + k * 6, none⟩) (by have := hxb2; show xb < _; omega)).trans C0_2.out
         have yc1 := (hkp.bel.cell (p := ⟨xb, xo + k * 6 + 1, none⟩) (by have := hxb2; show xb < _; omega)).trans C1_2.out
         have yc2 := (hkp.bel.cell (p := ⟨xb, xo + k * 6 + 2, none⟩) (by have := hxb2; show xb < _; omega)).trans C2_2.out
         have yc3 := (hkp.bel.cell (p := ⟨xb, xo + k * 6 + 3, none⟩) (by have := hxb2; show xb < _; omega)).trans C3_2.out
         have yc4 := (hkp.bel.cell (p := ⟨xb, xo + k * 6 + 4, none⟩) (by have := hxb2; show xb < _; omega)).trans C4_2.out
         have yc5 := (hkp.bel.cell (p := ⟨xb, xo + k * 6 + 5, none⟩) (by have := hxb2; show xb < _; omega)).trans C5_2.out
         clear hx hk hD hkp
         go_simp
         try rfl
       simp only [Act.put, List.setIfInBounds_toArray, List.set_cons_zero, List.set_cons_succ])
    first
    | (refine Fx.WM.skip 5 (by rfl) (by kernel_rfl) (by kernel_rfl) (by kernel_rfl) (by rfl) (fun g f w h => h) ?_; simp only [Act.put, List.setIfInBounds_toArray, List.set_cons_zero, List.set_cons_succ])
    | (refine Fx.WM.val_ 5 ?_ (by rfl) (by kernel_rfl) (by kernel_rfl) (by kernel_rfl) (by rfl) ?_ (fun g f w h => h) ?_
       rotate_left
       · intro g f w' hx hD hk
         obtain hkp := id hD
         have y1_0 := (K1_2.out.below hkp.bel l1_2).cell 0
         have y1_1 := (K1_2.out.below hkp.bel l1_2).cell 1
         clear hx hk hD hkp
         go_simp
         try rfl
       simp only [Act.put, List.setIfInBounds_toArray, List.set_cons_zero, List.set_cons_succ])
    first
    | (refine Fx.WM.skip 6 (by rfl) (by kernel_rfl) (by kernel_rfl) (by kernel_rfl) (by rfl) (fun g f w h => h) ?_; simp only [Act.put, List.setIfInBounds_toArray, List.set_cons_zero, List.set_cons_succ])
    | (refine Fx.WM.val_ 6 ?_ (by rfl) (by kernel_rfl) (by kernel_rfl) (by kernel_rfl) (by rfl) ?_ (fun g f w h => h) ?_
       rotate_left
       · intro g f w' hx hD hk
         obtain hkp := id hD
         have y1_0 := (K1_2.out.below hkp.bel l1_2).cell 0
         have y1_1 := (K1_2.out.below hkp.bel l1_2).cell 1
         clear hx hk hD hkp
         go_simp
         try rfl
       simp only [Act.put, List.setIfInBounds_toArray, List.set_cons_zero, List.set_cons_succ])
    refine Fx.WM.choose 7 (by rfl) (by kernel_rfl) (by rfl) ?_ ?_
    · skip
      refine Fx.Chooses.call ?_ ?_ (by rfl) ?_ ?_
      rotate_left 2
      · intro w'
        go_simp
        refine ⟨?_, ?_⟩ <;> rfl
      · intro f w' hD hk
        exact (rturns_is m t day X Y L F q HA.out HTA.out HQ.out w' (R0_2.out.lay hD.bel) HM.out HE1.out HD.out).mono fun e w'' ⟨A', c', he, hb, hr⟩ => ⟨((A', c'), (none, 0)), he, hD.choose PfQ.stb hb 7 _ ⟨fun e => absurd e (by decide), fun _ => hr⟩⟩
    intro x
    simp only [Act.put, List.setIfInBounds_toArray, List.set_cons_zero, List.set_cons_succ]
    first
    | (refine Fx.WM.skip 8 (by rfl) (by kernel_rfl) (by kernel_rfl) (by kernel_rfl) (by rfl) (fun g f w h => h) ?_; simp only [Act.put, List.setIfInBounds_toArray, List.set_cons_zero, List.set_cons_succ])
    | (refine Fx.WM.val_ 8 ?_ (by rfl) (by kernel_rfl) (by kernel_rfl) (by kernel_rfl) (by rfl) ?_ (fun g f w h => h) ?_
       rotate_left
       · intro g f w' hx hD hk
         obtain hkp := id hD
         clear hx hk hD hkp
         go_simp
         try rfl
       simp only [Act.put, List.setIfInBounds_toArray, List.set_cons_zero, List.set_cons_succ])
    first
    | (refine Fx.WM.skip 9 (by rfl) (by kernel_rfl) (by kernel_rfl) (by kernel_rfl) (by rfl) (fun g f w h => h) ?_; simp only [Act.put, List.setIfInBounds_toArray, List.set_cons_zero, List.set_cons_succ])
    | (refine Fx.WM.val_ 9 ?_ (by rfl) (by kernel_rfl) (by kernel_rfl) (by kernel_rfl) (by rfl) ?_ (fun g f w h => h) ?_
       rotate_left
       · intro g f w' hx hD hk
         obtain hkp := id hD
         clear hx hk hD hkp
         go_simp
         try rfl
       simp only [Act.put, List.setIfInBounds_toArray, List.set_cons_zero, List.set_cons_succ])
    first
    | (refine Fx.WM.skip 10 (by rfl) (by kernel_rfl) (by kernel_rfl) (by kernel_rfl) (by rfl) (fun g f w h => h) ?_; simp only [Act.put, List.setIfInBounds_toArray, List.set_cons_zero, List.set_cons_succ])
    | (refine Fx.WM.val_ 10 ?_ (by rfl) (by kernel_rfl) (by kernel_rfl) (by kernel_rfl) (by rfl) ?_ (fun g f w h => h) ?_
       rotate_left
       · intro g f w' hx hD hk
         obtain hkp := id hD
         clear hx hk hD hkp
         go_simp
         try rfl
       simp only [Act.put, List.setIfInBounds_toArray, List.set_cons_zero, List.set_cons_succ])
    first
    | (refine Fx.WM.skip 11 (by rfl) (by kernel_rfl) (by kernel_rfl) (by kernel_rfl) (by rfl) (fun g f w h => h) ?_; simp only [Act.put, List.setIfInBounds_toArray, List.set_cons_zero, List.set_cons_succ])
    | (refine Fx.WM.val_ 11 ?_ (by rfl) (by kernel_rfl) (by kernel_rfl) (by kernel_rfl) (by rfl) ?_ (fun g f w h => h) ?_
       rotate_left
       · intro g f w' hx hD hk
         obtain hkp := id hD
         clear hx hk hD hkp
         go_simp
         try rfl
       simp only [Act.put, List.setIfInBounds_toArray, List.set_cons_zero, List.set_cons_succ])
    first
    | (refine Fx.WM.skip 12 (by rfl) (by kernel_rfl) (by kernel_rfl) (by kernel_rfl) (by rfl) (fun g f w h => h) ?_; simp only [Act.put, List.setIfInBounds_toArray, List.set_cons_zero, List.set_cons_succ])
    | (refine Fx.WM.val_ 12 ?_ (by rfl) (by kernel_rfl) (by kernel_rfl) (by kernel_rfl) (by rfl) ?_ (fun g f w h => h) ?_
       rotate_left
       · intro g f w' hx hD hk
         obtain hkp := id hD
         clear hx hk hD hkp
         go_simp
         try rfl
       simp only [Act.put, List.setIfInBounds_toArray, List.set_cons_zero, List.set_cons_succ])
    refine Fx.WM.nil (by kernel_rfl) ?_
    intro wz hkp
    obtain ⟨⟨xA, xc⟩, x2⟩ := x
    have hb := hkp.bel
    have hr := (hkp.has 7 _ (by rfl)).2 rfl
    clear hkp
    simp only at hr
    obtain ⟨w3, hnm⟩ : ∃ z : World, z = wz := ⟨_, rfl⟩
    subst hnm
    have HB13 := Lib.hid (HB12.out.trans (hb.mono HB12.out.size))
    have HX23 := Lib.hid hb
    have HR3 := Lib.hid hr
    have HO3 := Lib.hid (HO.out.below hb)
    clear hr
    have HB3 := Lib.hid (show Below w.heap.size w w3 from step_below hb (by repeat' (first | exact Below.refl _ _ | exact HB2.out | refine below_drewN ?_ _ | refine Below.drew ?_ | refine Below.alloc ?_ (by first | omega | (simp; done) | (simp; omega) | (simp [World.setCell]; omega)) _ | refine Below.setCell ?_ (by first | omega | (simp; done) | (simp; omega)) _ | assumption)))
    have K0_3 := Lib.hid (step_blk hb (show Blk _ (w.heap.size) 24 #[.int .i64 (m.ls), .int .i64 (m.ms), .int .i64 (m.lo), .int .i64 (m.hi), .int .i64 (m.sp), .slice m.A1 m.n1 m.c1, .slice m.A2 m.n2 m.c2] by repeat' (first | exact K0_2.out | exact K1_2.out | exact Blk.at_ _ (by first | rfl | (simp; done) | (simp; omega)) _ _ | refine Blk.drewN ?_ _ | refine Blk.drew ?_ | refine Blk.alloc ?_ _ | refine Blk.far ?_ (by first | omega | (simp; done) | (simp; omega)) _ | assumption)))
    have K1_3 := Lib.hid (step_blk hb (show Blk _ (w.heap.size + 1) 26 #[.int .i64 (day), .int .i64 (pos)] by repeat' (first | exact K0_2.out | exact K1_2.out | exact Blk.at_ _ (by first | rfl | (simp; done) | (simp; omega)) _ _ | refine Blk.drewN ?_ _ | refine Blk.drew ?_ | refine Blk.alloc ?_ _ | refine Blk.far ?_ (by first | omega | (simp; done) | (simp; omega)) _ | assumption)))
    have C0_3 := Lib.hid (step_cell hb (show World.cell? _ ⟨xb, xo + k * 6, none⟩ = some (.string t.name) by first | exact C0_2.out | go_simp) (by have := hxb2; first | omega | (simp; omega)))
    have C1_3 := Lib.hid (step_cell hb (show World.cell? _ ⟨xb, xo + k * 6 + 1, none⟩ = some (.int .i64 (t.az)) by first | exact C1_2.out | go_simp) (by have := hxb2; first | omega | (simp; omega)))
    have C2_3 := Lib.hid (step_cell hb (show World.cell? _ ⟨xb, xo + k * 6 + 2, none⟩ = some (.int .i64 (t.ht)) by first | exact C2_2.out | go_simp) (by have := hxb2; first | omega | (simp; omega)))
    have C3_3 := Lib.hid (step_cell hb (show World.cell? _ ⟨xb, xo + k * 6 + 3, none⟩ = some (.int .i64 (t.fr)) by first | exact C3_2.out | go_simp) (by have := hxb2; first | omega | (simp; omega)))
    have C4_3 := Lib.hid (step_cell hb (show World.cell? _ ⟨xb, xo + k * 6 + 4, none⟩ = some (.int .i64 (t.to)) by first | exact C4_2.out | go_simp) (by have := hxb2; first | omega | (simp; omega)))
    have C5_3 := Lib.hid (step_cell hb (show World.cell? _ ⟨xb, xo + k * 6 + 5, none⟩ = some (.int .i64 (t.dw)) by first | exact C5_2.out | go_simp) (by have := hxb2; first | omega | (simp; omega)))
    have hL3 := Lib.hid (show Below w2.heap.size w2 _ from reads_mid hb (by repeat' (first | exact Below.refl _ _ | refine below_drewN ?_ _ | refine Below.drew ?_ | refine Below.alloc ?_ (by first | omega | (simp; done) | (simp; omega) | (simp [World.setCell]; omega)) _ | refine Below.setCell ?_ (by first | omega | (simp; done) | (simp; omega)) _)))
    have R0_3 := Lib.hid (mnt_lay hb hL3.out R0_2.out)
    clear hL3 R0_2
    have hz3 := hb.size
    try simp only [World.size_alloc, World.drewN, World.drew] at hz3
    clear hb K0_2 K1_2 z0_0_2 z0_1_2 z0_2_2 z0_3_2 z0_4_2 z0_5_2 z0_6_2 l0_2 z1_0_2 z1_1_2 l1_2
    have l0_3 : w.heap.size < w3.heap.size := K0_3.out.lt
    have z0_0_3 : w3.cell? ⟨w.heap.size, 0, none⟩ = some (.int .i64 (m.ls)) := K0_3.out.cell 0
    have z0_1_3 : w3.cell? ⟨w.heap.size, 1, none⟩ = some (.int .i64 (m.ms)) := K0_3.out.cell 1
    have z0_2_3 : w3.cell? ⟨w.heap.size, 2, none⟩ = some (.int .i64 (m.lo)) := K0_3.out.cell 2
    have z0_3_3 : w3.cell? ⟨w.heap.size, 3, none⟩ = some (.int .i64 (m.hi)) := K0_3.out.cell 3
    have z0_4_3 : w3.cell? ⟨w.heap.size, 4, none⟩ = some (.int .i64 (m.sp)) := K0_3.out.cell 4
    have z0_5_3 : w3.cell? ⟨w.heap.size, 5, none⟩ = some (.slice m.A1 m.n1 m.c1) := K0_3.out.cell 5
    have z0_6_3 : w3.cell? ⟨w.heap.size, 6, none⟩ = some (.slice m.A2 m.n2 m.c2) := K0_3.out.cell 6
    have l1_3 : w.heap.size + 1 < w3.heap.size := K1_3.out.lt
    have z1_0_3 : w3.cell? ⟨w.heap.size + 1, 0, none⟩ = some (.int .i64 (day)) := K1_3.out.cell 0
    have z1_1_3 : w3.cell? ⟨w.heap.size + 1, 1, none⟩ = some (.int .i64 (pos)) := K1_3.out.cell 1
    go_wp2
    generalize hw4 : World.alloc w3 _ = w4
    have hb34 : Below w3.heap.size w3 w4 := by rw [← hw4]; exact (Below.refl _ _).alloc (Nat.le_refl _) _
    obtain ⟨d, hd⟩ : ∃ d, dpB m day pos l (k + 1) = d := ⟨_, rfl⟩
    have hdl : d.length = q := by
      rw [← hd, dpB_len _ (by rw [HLL.out]; omega), froL_succ HTT.out]
      unfold posV posL
      rw [List.length_map, HV.out, HQ.out]
    have hrow : RB w4 w3.heap.size 3 q (rowD d 0) := by rw [← hw4]; exact (show RB (w3.alloc (.cells ((List.range q).map fun _ => Value.int .i64 0).toArray 3)) w3.heap.size 3 q (fun _ => .int .i64 0) from Blk.at_ _ rfl _ _).congr (fun j _ => rfl)
    have HB34 := Lib.hid hb34
    have HROW := Lib.hid hrow
    have HR4 := Lib.hid ((HR3.out.below hb34).more hb34.size)
    have HO4 := Lib.hid (HO3.out.below hb34)
    have hbw4 := HB3.out.trans (hb34.mono HB3.out.size)
    have HBW4 := Lib.hid hbw4
    have HB14 := Lib.hid (HB13.out.trans (hb34.mono HB13.out.size))
    have HDD := Lib.hid hd
    have HDL := Lib.hid hdl
    have hl4 := hrow.lt
    have hs3 := HB3.out.size
    have hs13 := HB13.out.size
    clear hw4 hb34 hrow hbw4 hd hdl
    go_loopw [12] (fun i wr => ∃ j : Nat, j ≤ q ∧ i = .int .i64 j ∧ Tch (fun g => g = w3.heap.size) w4 wr ∧ RB wr w3.heap.size 3 q (rowD d j)) (fun i _ => q - (intOf i).toNat)
    case atStart => exact ⟨0, by omega, rfl, Tch.refl _ _, HROW.out⟩
    case round =>
      obtain ⟨j, hj, rfl, ht5, hk5⟩ := hrel
      obtain ⟨w5, hnm⟩ : ∃ z : World, z = wr := ⟨_, rfl⟩
      subst hnm
      have HT5 := Lib.hid ht5
      have HK5 := Lib.hid hk5
      have hs5 := ht5.size
      have hbw5 : Below w.heap.size w w5 := HBW4.out.trans (ht5.below (B := w.heap.size) (fun g hg => by have hg : g = w3.heap.size := hg; omega) (by omega))
      have hb15 : Below w1.heap.size w1 w5 := HB14.out.trans (ht5.below (B := w1.heap.size) (fun g hg => by have hg : g = w3.heap.size := hg; omega) (by omega))
      have HBW5 := Lib.hid hbw5
      have HB15 := Lib.hid hb15
      clear ht5 hk5 hbw5 hb15
      by_cases hlt2 : j < q
      rotate_left
      · obtain rfl : q = j := by omega
        have ht35 : Tch (fun g => g = w3.heap.size) w3 w5 := (Tch.of_below HB34.out).trans HT5.out
        have ho5 := HO3.out.tch ht35 (fun g h1 h2 h3 => by have h3 : g = w3.heap.size := h3; omega)
        have hfull : (List.range q).map (rowD d q) = d.map (.int .i64) := by
          apply List.ext_getElem
          · simp [HDL.out]
          · intro i h1 h2
            simp only [List.getElem_map, List.getElem_range]
            unfold rowD
            have h3 : i < q := by simpa using h1
            rw [if_pos h3, List.getElem?_eq_getElem (by rw [HDL.out]; exact h3)]
            rfl
        have hrow5 : w5.ownsRow w1.heap.size 3 1 (.slice (some ⟨w3.heap.size, 0, none⟩) q q) q (d.map (.int .i64)) := by
          have := own_of_rb HK5.out (show w1.heap.size ≤ w3.heap.size by omega) (by unfold maxLen; omega)
          rw [hfull] at this
          exact this
        obtain ⟨W, hW⟩ : ∃ W, W = w5.alloc (.cells #[.slice (some ⟨w3.heap.size, 0, none⟩) q q] 31) := ⟨_, rfl⟩
        have hbW : Below w5.heap.size w5 W := by rw [hW]; exact (Below.refl _ _).alloc (Nat.le_refl _) _
        have hoW := ho5.below hbW
        have hnW := own_below hrow5 hbW (Nat.le_refl _)
        have hnb : Blk W w5.heap.size 31 #[.slice (some ⟨w3.heap.size, 0, none⟩) q q] := by rw [hW]; exact Blk.new _ _ _
        have hsz : W.heap.size = w5.heap.size + 1 := by rw [hW]; simp
        have hs15 := HB15.out.size
        obtain ⟨v', W2, hrun, o2', hg2, -⟩ := run_append_any (P := Try.prog) W w1.heap.size 41 41 31 i0 _ 1 24 Try.underlying41 HI0.out HZ0.out HZ1.out HZ2.out rfl (by omega) _ k _ hoW.row W.heap.size (some ⟨w5.heap.size, 0, none⟩) 1 1 [.slice (some ⟨w3.heap.size, 0, none⟩) q q] (Blk.reads hnb rfl) (by simp [Value.oneCell']) (by unfold maxLen; omega) (by first | omega | (simp; omega)) (by first | omega | (simp; omega))
        have htW : Tch (fun g => w1.heap.size ≤ g) W W2 := (Tch.refl _ W).grown hg2 (fun g hg => .inl (own_lt hoW.row hg).1)
        have hbw2 : Below w1.heap.size w1 W2 := (HB15.out.trans (hbW.mono hs15)).trans (htW.below (B := w1.heap.size) (fun g hg => hg) (by omega))
        have hall : RowsOwn w1.heap.size (ts ++ [(⟨some ⟨w3.heap.size, 0, none⟩, q, q, d⟩ : TRow)]) v' (k + 1) W2 := by
          refine ⟨by rw [List.map_append]; exact o2', fun r hr => ?_⟩
          rcases List.mem_append.1 hr with h | h
          · exact own_apart (hoW.each r h) hoW.row (by decide) hg2
          · obtain rfl : r = _ := by simpa using h
            exact own_apart hnW hoW.row (by decide) hg2
        rw [hW] at hrun
        have HRUN := Lib.hid hrun
        have HALL := Lib.hid hall
        have HBW9 := Lib.hid hbw2
        have HTN := Lib.hid (show (ts ++ [(⟨some ⟨w3.heap.size, 0, none⟩, q, q, d⟩ : TRow)]).map TRow.xs = (List.range (k + 1)).map (fun i => dpB m day pos l (i + 1)) by rw [List.map_append, HTS.out, List.range_succ, List.map_append]; simp [HDD.out])
        have ek := IntWalk.i64_in ((k : Int) + 1) ⟨by omega, by omega⟩
        clear hrun hall hbw2 hg2 htW hnb hnW hoW hbW hW hsz ht35 ho5 hrow5 hfull o2'
        go_wp2_with (first | (at_builtin; refine wpList_app _ W2 v' rfl _ _ _ rfl _ _ rfl rfl HRUN.out ?_))
        go_roundw
        case rel => exact ⟨k + 1, _, by omega, by go_num, HBW9.out, HTN.out, HALL.out⟩
        case measure => simp [intOf]; omega
      have hjj : (j : Int) < (q : Int) := by omega
      have ej := IntWalk.i64_in ((j : Int) + 1) ⟨by omega, by omega⟩
      have hb35 : Below w3.heap.size w3 w5 := HB34.out.trans (HT5.out.below (B := w3.heap.size) (fun g hg => by have hg : g = w3.heap.size := hg; omega) (by omega))
      have HB35 := Lib.hid hb35
      have hb1 := HB15.out
      have hk0 := Blk.below K0_1.out hb1 l0_1
      have hk1 := Blk.below K1_1.out hb1 l1_1
      have hbw := HBW5.out
      have hxm := HX.out.lay hbw
      have hsz5 := hbw.size
      have hr5 := HR3.out.below hb35
      clear hb1 hb35
      have HB5 := Lib.hid hbw
      have K0_5 := Lib.hid (show Blk w5 (w.heap.size) 24 #[.int .i64 (m.ls), .int .i64 (m.ms), .int .i64 (m.lo), .int .i64 (m.hi), .int .i64 (m.sp), .slice m.A1 m.n1 m.c1, .slice m.A2 m.n2 m.c2] from hk0)
      have K1_5 := Lib.hid (show Blk w5 (w.heap.size + 1) 26 #[.int .i64 (day), .int .i64 (pos)] from hk1)
      clear hbw hk0 hk1
      have l0_5 : w.heap.size < w5.heap.size := K0_5.out.lt
      have z0_0_5 : w5.cell? ⟨w.heap.size, 0, none⟩ = some (.int .i64 (m.ls)) := K0_5.out.cell 0
      have z0_1_5 : w5.cell? ⟨w.heap.size, 1, none⟩ = some (.int .i64 (m.ms)) := K0_5.out.cell 1
      have z0_2_5 : w5.cell? ⟨w.heap.size, 2, none⟩ = some (.int .i64 (m.lo)) := K0_5.out.cell 2
      have z0_3_5 : w5.cell? ⟨w.heap.size, 3, none⟩ = some (.int .i64 (m.hi)) := K0_5.out.cell 3
      have z0_4_5 : w5.cell? ⟨w.heap.size, 4, none⟩ = some (.int .i64 (m.sp)) := K0_5.out.cell 4
      have z0_5_5 : w5.cell? ⟨w.heap.size, 5, none⟩ = some (.slice m.A1 m.n1 m.c1) := K0_5.out.cell 5
      have z0_6_5 : w5.cell? ⟨w.heap.size, 6, none⟩ = some (.slice m.A2 m.n2 m.c2) := K0_5.out.cell 6
      have l1_5 : w.heap.size + 1 < w5.heap.size := K1_5.out.lt
      have z1_0_5 : w5.cell? ⟨w.heap.size + 1, 0, none⟩ = some (.int .i64 (day)) := K1_5.out.cell 0
      have z1_1_5 : w5.cell? ⟨w.heap.size + 1, 1, none⟩ = some (.int .i64 (pos)) := K1_5.out.cell 1
      have R0_5 := Lib.hid hxm
      clear hxm
      obtain ⟨kb, ko, kz, hAk, hkb, hkz, d0⟩ := hr5.int_ hlt2
      have hto := HVP.out j kz hkz
      have htn := turn_range (show kz ∈ turnsV m day t by rw [HV.out]; exact List.mem_of_getElem? hkz)
      obtain ⟨to, hto2⟩ : ∃ to, X + kz * 1296000 = to := ⟨_, rfl⟩
      rw [hto2] at hto
      have htr := posV_in (List.mem_of_getElem? hto)
      have hptr : PosR to := by unfold PosR; omega
      obtain ⟨-, -, t3, t4⟩ := htn
      have hdj : d[j]? = some (runC (dpB m day pos l k) (froL m day pos l k) to (froL m day pos l k).length) := by
        rw [← HDD.out]
        exact dp_at (fro_some HNE.out k (by rw [HLL.out]; omega)) (by rw [froL_succ HTT.out]; exact hto)
      have HDJ := Lib.hid hdj
      have HTO2 := Lib.hid hto2
      have HPT := Lib.hid hptr
      have hxb5 : xb < w5.heap.size := by omega
      have hkb5 : kb < w5.heap.size := by omega
      have HAK := Lib.hid hAk
      subst hAk
      clear hto hto2 hptr htr hkz hdj
      have C0_5 := Lib.hid ((HBW5.out.cell (p := ⟨xb, xo + k * 6, none⟩) hxb).trans HCW.out.1)
      have C1_5 := Lib.hid ((HBW5.out.cell (p := ⟨xb, xo + k * 6 + 1, none⟩) hxb).trans HCW.out.2.1)
      have C2_5 := Lib.hid ((HBW5.out.cell (p := ⟨xb, xo + k * 6 + 2, none⟩) hxb).trans HCW.out.2.2.1)
      have C3_5 := Lib.hid ((HBW5.out.cell (p := ⟨xb, xo + k * 6 + 3, none⟩) hxb).trans HCW.out.2.2.2.1)
      have C4_5 := Lib.hid ((HBW5.out.cell (p := ⟨xb, xo + k * 6 + 4, none⟩) hxb).trans HCW.out.2.2.2.2.1)
      have C5_5 := Lib.hid ((HBW5.out.cell (p := ⟨xb, xo + k * 6 + 5, none⟩) hxb).trans HCW.out.2.2.2.2.2)
      go_wp2_with fail
      refine Fx.regionW (fun W f w' => Below W.heap.size W w') (by kernel_rfl) (by kernel_rfl) ?_ ?_
      · intro f hf0
        exact below_drewN (Below.refl _ _) 1
      repeat (first
        | (refine Fx.skip_ (by rfl) (fun f w h => h) ?_; simp only [Act.put, List.setIfInBounds_toArray, List.set_cons_zero, List.set_cons_succ])
        | (refine Fx.val_ ?_ (by rfl) ?_ (fun f w h => h) ?_
           rotate_left
           · intro f w' hD hk
             have hb := hD
             have kb0 := step_blk hb (show Blk _ (w.heap.size) 24 #[.int .i64 (m.ls), .int .i64 (m.ms), .int .i64 (m.lo), .int .i64 (m.hi), .int .i64 (m.sp), .slice m.A1 m.n1 m.c1, .slice m.A2 m.n2 m.c2] by repeat' (first | exact K0_5.out | exact K1_5.out | exact Blk.at_ _ (by first | rfl | (simp; done) | (simp; omega)) _ _ | refine Blk.drewN ?_ _ | refine Blk.drew ?_ | refine Blk.alloc ?_ _ | refine Blk.far ?_ (by first | omega | (simp; done) | (simp; omega)) _ | assumption))
             have y0_0 : w'.cell? ⟨w.heap.size, 0, none⟩ = some (.int .i64 (m.ls)) := kb0.cell 0
             have y0_1 : w'.cell? ⟨w.heap.size, 1, none⟩ = some (.int .i64 (m.ms)) := kb0.cell 1
             have y0_2 : w'.cell? ⟨w.heap.size, 2, none⟩ = some (.int .i64 (m.lo)) := kb0.cell 2
             have y0_3 : w'.cell? ⟨w.heap.size, 3, none⟩ = some (.int .i64 (m.hi)) := kb0.cell 3
             have y0_4 : w'.cell? ⟨w.heap.size, 4, none⟩ = some (.int .i64 (m.sp)) := kb0.cell 4
             have y0_5 : w'.cell? ⟨w.heap.size, 5, none⟩ = some (.slice m.A1 m.n1 m.c1) := kb0.cell 5
             have y0_6 : w'.cell? ⟨w.heap.size, 6, none⟩ = some (.slice m.A2 m.n2 m.c2) := kb0.cell 6
             have kb1 := step_blk hb (show Blk _ (w.heap.size + 1) 26 #[.int .i64 (day), .int .i64 (pos)] by repeat' (first | exact K0_5.out | exact K1_5.out | exact Blk.at_ _ (by first | rfl | (simp; done) | (simp; omega)) _ _ | refine Blk.drewN ?_ _ | refine Blk.drew ?_ | refine Blk.alloc ?_ _ | refine Blk.far ?_ (by first | omega | (simp; done) | (simp; omega)) _ | assumption))
             have y1_0 : w'.cell? ⟨w.heap.size + 1, 0, none⟩ = some (.int .i64 (day)) := kb1.cell 0
             have y1_1 : w'.cell? ⟨w.heap.size + 1, 1, none⟩ = some (.int .i64 (pos)) := kb1.cell 1
             have yc0 : w'.cell? ⟨xb, xo + k * 6, none⟩ = some (.string t.name) := step_cell hb (show World.cell? _ ⟨xb, xo + k * 6, none⟩ = some (.string t.name) by first | exact C0_5.out | go_simp) (by have := hxb5; first | omega | (simp; omega))
             have yc1 : w'.cell? ⟨xb, xo + k * 6 + 1, none⟩ = some (.int .i64 (t.az)) := step_cell hb (show World.cell? _ ⟨xb, xo + k * 6 + 1, none⟩ = some (.int .i64 (t.az)) by first | exact C1_5.out | go_simp) (by have := hxb5; first | omega | (simp; omega))
             have yc2 : w'.cell? ⟨xb, xo + k * 6 + 2, none⟩ = some (.int .i64 (t.ht)) := step_cell hb (show World.cell? _ ⟨xb, xo + k * 6 + 2, none⟩ = some (.int .i64 (t.ht)) by first | exact C2_5.out | go_simp) (by have := hxb5; first | omega | (simp; omega))
             have yc3 : w'.cell? ⟨xb, xo + k * 6 + 3, none⟩ = some (.int .i64 (t.fr)) := step_cell hb (show World.cell? _ ⟨xb, xo + k * 6 + 3, none⟩ = some (.int .i64 (t.fr)) by first | exact C3_5.out | go_simp) (by have := hxb5; first | omega | (simp; omega))
             have yc4 : w'.cell? ⟨xb, xo + k * 6 + 4, none⟩ = some (.int .i64 (t.to)) := step_cell hb (show World.cell? _ ⟨xb, xo + k * 6 + 4, none⟩ = some (.int .i64 (t.to)) by first | exact C4_5.out | go_simp) (by have := hxb5; first | omega | (simp; omega))
             have yc5 : w'.cell? ⟨xb, xo + k * 6 + 5, none⟩ = some (.int .i64 (t.dw)) := step_cell hb (show World.cell? _ ⟨xb, xo + k * 6 + 5, none⟩ = some (.int .i64 (t.dw)) by first | exact C5_5.out | go_simp) (by have := hxb5; first | omega | (simp; omega))
             have x9 := (hb.cell (p := ⟨kb, ko + j, none⟩) hkb5).trans d0
             clear kb0 kb1
             clear hk hD hb
             go_simp
             try rfl
           simp only [Act.put, List.setIfInBounds_toArray, List.set_cons_zero, List.set_cons_succ]))
      refine Fx.call_ (.int .i64 (to)) ?_ ?_ (by rfl) ?_ ?_ ?_
      rotate_left 2
      · intro w'
        go_simp
        refine ⟨?_, ?_⟩ <;> rfl
      · intro f w' hD hk
        exact (rposition_is m t day kz X Y to HA.out HTO2.out ⟨by omega, by omega⟩ w' (R0_5.out.lay hD) HM.out HE1.out HD.out).mono fun e w'' ⟨he, hw⟩ => ⟨he, step_below hw hD⟩
      simp only [Act.put, List.setIfInBounds_toArray, List.set_cons_zero, List.set_cons_succ]
      repeat (first
        | (refine Fx.skip_ (by rfl) (fun f w h => h) ?_; simp only [Act.put, List.setIfInBounds_toArray, List.set_cons_zero, List.set_cons_succ])
        | (refine Fx.val_ ?_ (by rfl) ?_ (fun f w h => h) ?_
           rotate_left
           · intro f w' hD hk
             have hb := hD
             have kb0 := step_blk hb (show Blk _ (w.heap.size) 24 #[.int .i64 (m.ls), .int .i64 (m.ms), .int .i64 (m.lo), .int .i64 (m.hi), .int .i64 (m.sp), .slice m.A1 m.n1 m.c1, .slice m.A2 m.n2 m.c2] by repeat' (first | exact K0_5.out | exact K1_5.out | exact Blk.at_ _ (by first | rfl | (simp; done) | (simp; omega)) _ _ | refine Blk.drewN ?_ _ | refine Blk.drew ?_ | refine Blk.alloc ?_ _ | refine Blk.far ?_ (by first | omega | (simp; done) | (simp; omega)) _ | assumption))
             have y0_0 : w'.cell? ⟨w.heap.size, 0, none⟩ = some (.int .i64 (m.ls)) := kb0.cell 0
             have y0_1 : w'.cell? ⟨w.heap.size, 1, none⟩ = some (.int .i64 (m.ms)) := kb0.cell 1
             have y0_2 : w'.cell? ⟨w.heap.size, 2, none⟩ = some (.int .i64 (m.lo)) := kb0.cell 2
             have y0_3 : w'.cell? ⟨w.heap.size, 3, none⟩ = some (.int .i64 (m.hi)) := kb0.cell 3
             have y0_4 : w'.cell? ⟨w.heap.size, 4, none⟩ = some (.int .i64 (m.sp)) := kb0.cell 4
             have y0_5 : w'.cell? ⟨w.heap.size, 5, none⟩ = some (.slice m.A1 m.n1 m.c1) := kb0.cell 5
             have y0_6 : w'.cell? ⟨w.heap.size, 6, none⟩ = some (.slice m.A2 m.n2 m.c2) := kb0.cell 6
             have kb1 := step_blk hb (show Blk _ (w.heap.size + 1) 26 #[.int .i64 (day), .int .i64 (pos)] by repeat' (first | exact K0_5.out | exact K1_5.out | exact Blk.at_ _ (by first | rfl | (simp; done) | (simp; omega)) _ _ | refine Blk.drewN ?_ _ | refine Blk.drew ?_ | refine Blk.alloc ?_ _ | refine Blk.far ?_ (by first | omega | (simp; done) | (simp; omega)) _ | assumption))
             have y1_0 : w'.cell? ⟨w.heap.size + 1, 0, none⟩ = some (.int .i64 (day)) := kb1.cell 0
             have y1_1 : w'.cell? ⟨w.heap.size + 1, 1, none⟩ = some (.int .i64 (pos)) := kb1.cell 1
             have yc0 : w'.cell? ⟨xb, xo + k * 6, none⟩ = some (.string t.name) := step_cell hb (show World.cell? _ ⟨xb, xo + k * 6, none⟩ = some (.string t.name) by first | exact C0_5.out | go_simp) (by have := hxb5; first | omega | (simp; omega))
             have yc1 : w'.cell? ⟨xb, xo + k * 6 + 1, none⟩ = some (.int .i64 (t.az)) := step_cell hb (show World.cell? _ ⟨xb, xo + k * 6 + 1, none⟩ = some (.int .i64 (t.az)) by first | exact C1_5.out | go_simp) (by have := hxb5; first | omega | (simp; omega))
             have yc2 : w'.cell? ⟨xb, xo + k * 6 + 2, none⟩ = some (.int .i64 (t.ht)) := step_cell hb (show World.cell? _ ⟨xb, xo + k * 6 + 2, none⟩ = some (.int .i64 (t.ht)) by first | exact C2_5.out | go_simp) (by have := hxb5; first | omega | (simp; omega))
             have yc3 : w'.cell? ⟨xb, xo + k * 6 + 3, none⟩ = some (.int .i64 (t.fr)) := step_cell hb (show World.cell? _ ⟨xb, xo + k * 6 + 3, none⟩ = some (.int .i64 (t.fr)) by first | exact C3_5.out | go_simp) (by have := hxb5; first | omega | (simp; omega))
             have yc4 : w'.cell? ⟨xb, xo + k * 6 + 4, none⟩ = some (.int .i64 (t.to)) := step_cell hb (show World.cell? _ ⟨xb, xo + k * 6 + 4, none⟩ = some (.int .i64 (t.to)) by first | exact C4_5.out | go_simp) (by have := hxb5; first | omega | (simp; omega))
             have yc5 : w'.cell? ⟨xb, xo + k * 6 + 5, none⟩ = some (.int .i64 (t.dw)) := step_cell hb (show World.cell? _ ⟨xb, xo + k * 6 + 5, none⟩ = some (.int .i64 (t.dw)) by first | exact C5_5.out | go_simp) (by have := hxb5; first | omega | (simp; omega))
             have x9 := (hb.cell (p := ⟨kb, ko + j, none⟩) hkb5).trans d0
             clear kb0 kb1
             clear hk hD hb
             go_simp
             try rfl
           simp only [Act.put, List.setIfInBounds_toArray, List.set_cons_zero, List.set_cons_succ]))
      refine Fx.nil_ ?_
      intro f w6 hall hb
      try clear hall
      have HB56 := Lib.hid hb
      have HB6 := Lib.hid (show Below w.heap.size w w6 from step_below hb (by repeat' (first | exact Below.refl _ _ | exact HB5.out | refine below_drewN ?_ _ | refine Below.drew ?_ | refine Below.alloc ?_ (by first | omega | (simp; done) | (simp; omega) | (simp [World.setCell]; omega)) _ | refine Below.setCell ?_ (by first | omega | (simp; done) | (simp; omega)) _ | assumption)))
      have K0_6 := Lib.hid (step_blk hb (show Blk _ (w.heap.size) 24 #[.int .i64 (m.ls), .int .i64 (m.ms), .int .i64 (m.lo), .int .i64 (m.hi), .int .i64 (m.sp), .slice m.A1 m.n1 m.c1, .slice m.A2 m.n2 m.c2] by repeat' (first | exact K0_5.out | exact K1_5.out | exact Blk.at_ _ (by first | rfl | (simp; done) | (simp; omega)) _ _ | refine Blk.drewN ?_ _ | refine Blk.drew ?_ | refine Blk.alloc ?_ _ | refine Blk.far ?_ (by first | omega | (simp; done) | (simp; omega)) _ | assumption)))
      have K1_6 := Lib.hid (step_blk hb (show Blk _ (w.heap.size + 1) 26 #[.int .i64 (day), .int .i64 (pos)] by repeat' (first | exact K0_5.out | exact K1_5.out | exact Blk.at_ _ (by first | rfl | (simp; done) | (simp; omega)) _ _ | refine Blk.drewN ?_ _ | refine Blk.drew ?_ | refine Blk.alloc ?_ _ | refine Blk.far ?_ (by first | omega | (simp; done) | (simp; omega)) _ | assumption)))
      have C0_6 := Lib.hid (step_cell hb (show World.cell? _ ⟨xb, xo + k * 6, none⟩ = some (.string t.name) by first | exact C0_5.out | go_simp) (by have := hxb5; first | omega | (simp; omega)))
      have C1_6 := Lib.hid (step_cell hb (show World.cell? _ ⟨xb, xo + k * 6 + 1, none⟩ = some (.int .i64 (t.az)) by first | exact C1_5.out | go_simp) (by have := hxb5; first | omega | (simp; omega)))
      have C2_6 := Lib.hid (step_cell hb (show World.cell? _ ⟨xb, xo + k * 6 + 2, none⟩ = some (.int .i64 (t.ht)) by first | exact C2_5.out | go_simp) (by have := hxb5; first | omega | (simp; omega)))
      have C3_6 := Lib.hid (step_cell hb (show World.cell? _ ⟨xb, xo + k * 6 + 3, none⟩ = some (.int .i64 (t.fr)) by first | exact C3_5.out | go_simp) (by have := hxb5; first | omega | (simp; omega)))
      have C4_6 := Lib.hid (step_cell hb (show World.cell? _ ⟨xb, xo + k * 6 + 4, none⟩ = some (.int .i64 (t.to)) by first | exact C4_5.out | go_simp) (by have := hxb5; first | omega | (simp; omega)))
      have C5_6 := Lib.hid (step_cell hb (show World.cell? _ ⟨xb, xo + k * 6 + 5, none⟩ = some (.int .i64 (t.dw)) by first | exact C5_5.out | go_simp) (by have := hxb5; first | omega | (simp; omega)))
      have hL6 := Lib.hid (show Below w5.heap.size w5 _ from reads_mid hb (by repeat' (first | exact Below.refl _ _ | refine below_drewN ?_ _ | refine Below.drew ?_ | refine Below.alloc ?_ (by first | omega | (simp; done) | (simp; omega) | (simp [World.setCell]; omega)) _ | refine Below.setCell ?_ (by first | omega | (simp; done) | (simp; omega)) _)))
      have R0_6 := Lib.hid (mnt_lay hb hL6.out R0_5.out)
      clear hL6 R0_5
      have hz6 := hb.size
      try simp only [World.size_alloc, World.drewN, World.drew] at hz6
      clear hb K0_5 K1_5 z0_0_5 z0_1_5 z0_2_5 z0_3_5 z0_4_5 z0_5_5 z0_6_5 l0_5 z1_0_5 z1_1_5 l1_5
      have l0_6 : w.heap.size < w6.heap.size := K0_6.out.lt
      have z0_0_6 : w6.cell? ⟨w.heap.size, 0, none⟩ = some (.int .i64 (m.ls)) := K0_6.out.cell 0
      have z0_1_6 : w6.cell? ⟨w.heap.size, 1, none⟩ = some (.int .i64 (m.ms)) := K0_6.out.cell 1
      have z0_2_6 : w6.cell? ⟨w.heap.size, 2, none⟩ = some (.int .i64 (m.lo)) := K0_6.out.cell 2
      have z0_3_6 : w6.cell? ⟨w.heap.size, 3, none⟩ = some (.int .i64 (m.hi)) := K0_6.out.cell 3
      have z0_4_6 : w6.cell? ⟨w.heap.size, 4, none⟩ = some (.int .i64 (m.sp)) := K0_6.out.cell 4
      have z0_5_6 : w6.cell? ⟨w.heap.size, 5, none⟩ = some (.slice m.A1 m.n1 m.c1) := K0_6.out.cell 5
      have z0_6_6 : w6.cell? ⟨w.heap.size, 6, none⟩ = some (.slice m.A2 m.n2 m.c2) := K0_6.out.cell 6
      have l1_6 : w.heap.size + 1 < w6.heap.size := K1_6.out.lt
      have z1_0_6 : w6.cell? ⟨w.heap.size + 1, 0, none⟩ = some (.int .i64 (day)) := K1_6.out.cell 0
      have z1_1_6 : w6.cell? ⟨w.heap.size + 1, 1, none⟩ = some (.int .i64 (pos)) := K1_6.out.cell 1
      have HK6 := Lib.hid (HK5.out.lay HB56.out)
      have HT6 := Lib.hid (HT5.out.trans (Tch.of_below HB56.out))
      have hsz6 := HB56.out.size
      clear d0
      by_cases h0 : k = 0
      · have e0 : ((k : Int) == 0) = true := by rw [h0]; rfl
        obtain ⟨v, hv⟩ : ∃ v, costF pos to = v := ⟨_, rfl⟩
        have hdv : d[j]? = some v := by have h := HDJ.out; rw [h0, run_zero, hv] at h; exact h
        have HVV := Lib.hid hv
        have HDV := Lib.hid hdv
        have hold := HK6.out.cell hlt2
        have hofr := HK6.out.frozen j
        clear hv hdv h0
        go_wp2_with fail
        refine (rcost9_is pos to v HVV.out _ hposR HPT.out).mono ?_
        rintro e w' ⟨rfl, rfl⟩
        go_wp2
        go_roundw
        case rel => exact ⟨j + 1, by omega, by go_num, HT6.out.setCell (.inl rfl) _, (RB.set_ HK6.out j _).congr fun i _ => rowD_step HDV.out i⟩
        case measure => simp [intOf]; omega
      obtain ⟨k', hk'⟩ : ∃ k', k = k' + 1 := ⟨k - 1, by omega⟩
      have hk'lt : k' < n := by omega
      obtain ⟨_, _, t', hAy, -, ht', y0, y1, y2, y3, y4, y5⟩ := HL.out.tgt hk'lt
      cases hAy
      obtain ⟨A2, c2, rfl, -⟩ := own_reads HO.out.row
      obtain ⟨pb, po, r', rfl, hpb, hr', p1, -, hrl', hrr'⟩ := HO.out.at_.at_ (show k' < k by omega)
      have HCY := Lib.hid (show TgtCells xb (xo + k' * 6) t' w from ⟨y0, y1, y2, y3, y4, y5⟩)
      have hxs' : r'.xs = dpB m day pos l k := by
        have h1 : (ts.map TRow.xs)[k']? = some r'.xs := by rw [List.getElem?_map, hr']; rfl
        rw [HTS.out, List.getElem?_map, List.getElem?_range (by omega)] at h1
        rw [hk']; exact (Option.some.inj h1).symm
      obtain ⟨rA', rn', rc', rx'⟩ := r'
      simp only at p1 hrl' hrr' hxs'
      obtain ⟨te1', -⟩ := HEA.out t' (List.mem_of_getElem? ht')
      obtain ⟨X', Y', hA'⟩ : ∃ X Y, appF m t' day = (X, Y) := ⟨_, _, rfl⟩
      obtain ⟨L', F', hTA'⟩ : ∃ L F, turnsAt m X' Y' = (L, F) := ⟨_, _, rfl⟩
      obtain ⟨q', hq'⟩ : ∃ q, L'.length = q := ⟨_, rfl⟩
      obtain ⟨hV', hVP'⟩ := turnsV_eq hA' hTA'
      have hfro : froL m day pos l k = posV m day t' := by rw [hk']; exact froL_succ ht'
      have hfl : (froL m day pos l k).length = q' := by
        rw [hfro]
        unfold posV posL
        rw [List.length_map, hV', hq']
      have hrn' : rn' = q' := by
        rw [← hrl', hxs', dpB_len k (by rw [HLL.out]; omega), hfl]
      subst hrn'
      have hq43' : rn' ≤ 43 := by have := turnsAt_len43 hTA'; omega
      have v3 : IntKind.i64.wrap ((k : Int) - 1) = (k' : Int) := by rw [IntWalk.i64_in _ ⟨by omega, by omega⟩]; omega
      have hkk' : (k' : Int) < (n : Int) := by omega
      have hkk2 : (k' : Int) < (k : Int) := by omega
      have e0 : ((k : Int) == 0) = false := by rw [beq_eq_false_iff_ne]; omega
      have hxb6 : xb < w6.heap.size := by omega
      have HP1 := Lib.hid p1
      have HRR' := Lib.hid hrr'
      have HA' := Lib.hid hA'
      have HTA' := Lib.hid hTA'
      have HQ' := Lib.hid hq'
      have HE1' := Lib.hid te1'
      have HV' := Lib.hid hV'
      have HVP' := Lib.hid hVP'
      have HFRO := Lib.hid hfro
      have HFL := Lib.hid hfl
      have HXS' := Lib.hid hxs'
      clear h0 hk' ht' hr' p1 hrl' hrr' te1' hA' hTA' hq' hV' hVP' hfro hfl hxs' y0 y1 y2 y3 y4 y5
      have C6_6 := Lib.hid ((HB6.out.cell (p := ⟨xb, xo + k' * 6, none⟩) hxb).trans HCY.out.1)
      have C7_6 := Lib.hid ((HB6.out.cell (p := ⟨xb, xo + k' * 6 + 1, none⟩) hxb).trans HCY.out.2.1)
      have C8_6 := Lib.hid ((HB6.out.cell (p := ⟨xb, xo + k' * 6 + 2, none⟩) hxb).trans HCY.out.2.2.1)
      have C9_6 := Lib.hid ((HB6.out.cell (p := ⟨xb, xo + k' * 6 + 3, none⟩) hxb).trans HCY.out.2.2.2.1)
      have C10_6 := Lib.hid ((HB6.out.cell (p := ⟨xb, xo + k' * 6 + 4, none⟩) hxb).trans HCY.out.2.2.2.2.1)
      have C11_6 := Lib.hid ((HB6.out.cell (p := ⟨xb, xo + k' * 6 + 5, none⟩) hxb).trans HCY.out.2.2.2.2.2)
      go_wp2
      refine Fx.regionM (fun W g f w' => Kp (PfO rn' L' 8 w6.heap.size) W g w') (fun i (x : Pick2) => .tuple #[.slice x.1.1 rn' x.1.2, .int .i64 F']) (by kernel_rfl) ?_ ?_
      · intro f hf0
        exact Kp.start
      first
      | (refine Fx.WM.skip 0 (by rfl) (by kernel_rfl) (by kernel_rfl) (by kernel_rfl) (by rfl) (fun g f w h => h) ?_; simp only [Act.put, List.setIfInBounds_toArray, List.set_cons_zero, List.set_cons_succ])
      | (refine Fx.WM.val_ 0 ?_ (by rfl) (by kernel_rfl) (by kernel_rfl) (by kernel_rfl) (by rfl) ?_ (fun g f w h => h) ?_
         rotate_left
         · intro g f w' hx hD hk
           obtain hkp := id hD
           have y0_0 := (K0_6.out.below hkp.bel l0_6).cell 0
           have y0_1 := (K0_6.out.below hkp.bel l0_6).cell 1
           have y0_2 := (K0_6.out.below hkp.bel l0_6).cell 2
           have y0_3 := (K0_6.out.below hkp.bel l0_6).cell 3
           have y0_4 := (K0_6.out.below hkp.bel l0_6).cell 4
           have y0_5 := (K0_6.out.below hkp.bel l0_6).cell 5
           have y0_6 := (K0_6.out.below hkp.bel l0_6).cell 6
           clear hx hk hD hkp
           go_simp
           try rfl
         simp only [Act.put, List.setIfInBounds_toArray, List.set_cons_zero, List.set_cons_succ])
      first
      | (refine Fx.WM.skip 1 (by rfl) (by kernel_rfl) (by kernel_rfl) (by kernel_rfl) (by rfl) (fun g f w h => h) ?_; simp only [Act.put, List.setIfInBounds_toArray, List.set_cons_zero, List.set_cons_succ])
      | (refine Fx.WM.val_ 1 ?_ (by rfl) (by kernel_rfl) (by kernel_rfl) (by kernel_rfl) (by rfl) ?_ (fun g f w h => h) ?_
         rotate_left
         · intro g f w' hx hD hk
           obtain hkp := id hD
           clear hx hk hD hkp
           go_simp
           try rfl
         simp only [Act.put, List.setIfInBounds_toArray, List.set_cons_zero, List.set_cons_succ])
      first
      | (refine Fx.WM.skip 2 (by rfl) (by kernel_rfl) (by kernel_rfl) (by kernel_rfl) (by rfl) (fun g f w h => h) ?_; simp only [Act.put, List.setIfInBounds_toArray, List.set_cons_zero, List.set_cons_succ])
      | (refine Fx.WM.val_ 2 ?_ (by rfl) (by kernel_rfl) (by kernel_rfl) (by kernel_rfl) (by rfl) ?_ (fun g f w h => h) ?_
         rotate_left
         · intro g f w' hx hD hk
           obtain hkp := id hD
           clear hx hk hD hkp
           go_simp
           try rfl
         simp only [Act.put, List.setIfInBounds_toArray, List.set_cons_zero, List.set_cons_succ])
      first
      | (refine Fx.WM.skip 3 (by rfl) (by kernel_rfl) (by kernel_rfl) (by kernel_rfl) (by rfl) (fun g f w h => h) ?_; simp only [Act.put, List.setIfInBounds_toArray, List.set_cons_zero, List.set_cons_succ])
      | (refine Fx.WM.val_ 3 ?_ (by rfl) (by kernel_rfl) (by kernel_rfl) (by kernel_rfl) (by rfl) ?_ (fun g f w h => h) ?_
         rotate_left
         · intro g f w' hx hD hk
           obtain hkp := id hD
           clear hx hk hD hkp
           go_simp
           try rfl
         simp only [Act.put, List.setIfInBounds_toArray, List.set_cons_zero, List.set_cons_succ])
      first
      | (refine Fx.WM.skip 4 (by rfl) (by kernel_rfl) (by kernel_rfl) (by kernel_rfl) (by rfl) (fun g f w h => h) ?_; simp only [Act.put, List.setIfInBounds_toArray, List.set_cons_zero, List.set_cons_succ])
      | (refine Fx.WM.val_ 4 ?_ (by rfl) (by kernel_rfl) (by kernel_rfl) (by kernel_rfl) (by rfl) ?_ (fun g f w h => h) ?_
         rotate_left
         · intro g f w' hx hD hk
           obtain hkp := id hD
           clear hx hk hD hkp
           go_simp
           try rfl
         simp only [Act.put, List.setIfInBounds_toArray, List.set_cons_zero, List.set_cons_succ])
      first
      | (refine Fx.WM.skip 5 (by rfl) (by kernel_rfl) (by kernel_rfl) (by kernel_rfl) (by rfl) (fun g f w h => h) ?_; simp only [Act.put, List.setIfInBounds_toArray, List.set_cons_zero, List.set_cons_succ])
      | (refine Fx.WM.val_ 5 ?_ (by rfl) (by kernel_rfl) (by kernel_rfl) (by kernel_rfl) (by rfl) ?_ (fun g f w h => h) ?_
         rotate_left
         · intro g f w' hx hD hk
           obtain hkp := id hD
           have yc0 := (hkp.bel.cell (p := ⟨xb, xo + k * 6, none⟩) (by have := hxb5; show xb < _; omega)).trans C0_6.out
           have yc1 := (hkp.bel.cell (p := ⟨xb, xo + k * 6 + 1, none⟩) (by have := hxb5; show xb < _; omega)).trans C1_6.out
           have yc2 := (hkp.bel.cell (p := ⟨xb, xo + k * 6 + 2, none⟩) (by have := hxb5; show xb < _; omega)).trans C2_6.out
           have yc3 := (hkp.bel.cell (p := ⟨xb, xo + k * 6 + 3, none⟩) (by have := hxb5; show xb < _; omega)).trans C3_6.out
           have yc4 := (hkp.bel.cell (p := ⟨xb, xo + k * 6 + 4, none⟩) (by have := hxb5; show xb < _; omega)).trans C4_6.out
           have yc5 := (hkp.bel.cell (p := ⟨xb, xo + k * 6 + 5, none⟩) (by have := hxb5; show xb < _; omega)).trans C5_6.out
           have yc6 := (hkp.bel.cell (p := ⟨xb, xo + k' * 6, none⟩) (by have := hxb6; show xb < _; omega)).trans C6_6.out
           have yc7 := (hkp.bel.cell (p := ⟨xb, xo + k' * 6 + 1, none⟩) (by have := hxb6; show xb < _; omega)).trans C7_6.out
           have yc8 := (hkp.bel.cell (p := ⟨xb, xo + k' * 6 + 2, none⟩) (by have := hxb6; show xb < _; omega)).trans C8_6.out
           have yc9 := (hkp.bel.cell (p := ⟨xb, xo + k' * 6 + 3, none⟩) (by have := hxb6; show xb < _; omega)).trans C9_6.out
           have yc10 := (hkp.bel.cell (p := ⟨xb, xo + k' * 6 + 4, none⟩) (by have := hxb6; show xb < _; omega)).trans C10_6.out
           have yc11 := (hkp.bel.cell (p := ⟨xb, xo + k' * 6 + 5, none⟩) (by have := hxb6; show xb < _; omega)).trans C11_6.out
           clear hx hk hD hkp
           go_simp
           try rfl
         simp only [Act.put, List.setIfInBounds_toArray, List.set_cons_zero, List.set_cons_succ])
      first
      | (refine Fx.WM.skip 6 (by rfl) (by kernel_rfl) (by kernel_rfl) (by kernel_rfl) (by rfl) (fun g f w h => h) ?_; simp only [Act.put, List.setIfInBounds_toArray, List.set_cons_zero, List.set_cons_succ])
      | (refine Fx.WM.val_ 6 ?_ (by rfl) (by kernel_rfl) (by kernel_rfl) (by kernel_rfl) (by rfl) ?_ (fun g f w h => h) ?_
         rotate_left
         · intro g f w' hx hD hk
           obtain hkp := id hD
           have y1_0 := (K1_6.out.below hkp.bel l1_6).cell 0
           have y1_1 := (K1_6.out.below hkp.bel l1_6).cell 1
           clear hx hk hD hkp
           go_simp
           try rfl
         simp only [Act.put, List.setIfInBounds_toArray, List.set_cons_zero, List.set_cons_succ])
      first
      | (refine Fx.WM.skip 7 (by rfl) (by kernel_rfl) (by kernel_rfl) (by kernel_rfl) (by rfl) (fun g f w h => h) ?_; simp only [Act.put, List.setIfInBounds_toArray, List.set_cons_zero, List.set_cons_succ])
      | (refine Fx.WM.val_ 7 ?_ (by rfl) (by kernel_rfl) (by kernel_rfl) (by kernel_rfl) (by rfl) ?_ (fun g f w h => h) ?_
         rotate_left
         · intro g f w' hx hD hk
           obtain hkp := id hD
           have y1_0 := (K1_6.out.below hkp.bel l1_6).cell 0
           have y1_1 := (K1_6.out.below hkp.bel l1_6).cell 1
           clear hx hk hD hkp
           go_simp
           try rfl
         simp only [Act.put, List.setIfInBounds_toArray, List.set_cons_zero, List.set_cons_succ])
      refine Fx.WM.choose 8 (by rfl) (by kernel_rfl) (by rfl) ?_ ?_
      · skip
        refine Fx.Chooses.call ?_ ?_ (by rfl) ?_ ?_
        rotate_left 2
        · intro w'
          go_simp
          refine ⟨?_, ?_⟩ <;> rfl
        · intro f w' hD hk
          exact (rturnso_is m t' day X' Y' L' F' rn' HA'.out HTA'.out HQ'.out w' (R0_6.out.lay hD.bel) HM.out HE1'.out HD.out).mono fun e w'' ⟨A', c', he, hb, hr⟩ => ⟨((A', c'), (none, 0)), he, hD.choose PfO.stb hb 8 _ (fun _ => own_mono (base' := w6.heap.size) hr hD.bel.size)⟩
      intro x
      simp only [Act.put, List.setIfInBounds_toArray, List.set_cons_zero, List.set_cons_succ]
      first
      | (refine Fx.WM.skip 9 (by rfl) (by kernel_rfl) (by kernel_rfl) (by kernel_rfl) (by rfl) (fun g f w h => h) ?_; simp only [Act.put, List.setIfInBounds_toArray, List.set_cons_zero, List.set_cons_succ])
      | (refine Fx.WM.val_ 9 ?_ (by rfl) (by kernel_rfl) (by kernel_rfl) (by kernel_rfl) (by rfl) ?_ (fun g f w h => h) ?_
         rotate_left
         · intro g f w' hx hD hk
           obtain hkp := id hD
           clear hx hk hD hkp
           go_simp
           try rfl
         simp only [Act.put, List.setIfInBounds_toArray, List.set_cons_zero, List.set_cons_succ])
      first
      | (refine Fx.WM.skip 10 (by rfl) (by kernel_rfl) (by kernel_rfl) (by kernel_rfl) (by rfl) (fun g f w h => h) ?_; simp only [Act.put, List.setIfInBounds_toArray, List.set_cons_zero, List.set_cons_succ])
      | (refine Fx.WM.val_ 10 ?_ (by rfl) (by kernel_rfl) (by kernel_rfl) (by kernel_rfl) (by rfl) ?_ (fun g f w h => h) ?_
         rotate_left
         · intro g f w' hx hD hk
           obtain hkp := id hD
           clear hx hk hD hkp
           go_simp
           try rfl
         simp only [Act.put, List.setIfInBounds_toArray, List.set_cons_zero, List.set_cons_succ])
      first
      | (refine Fx.WM.skip 11 (by rfl) (by kernel_rfl) (by kernel_rfl) (by kernel_rfl) (by rfl) (fun g f w h => h) ?_; simp only [Act.put, List.setIfInBounds_toArray, List.set_cons_zero, List.set_cons_succ])
      | (refine Fx.WM.val_ 11 ?_ (by rfl) (by kernel_rfl) (by kernel_rfl) (by kernel_rfl) (by rfl) ?_ (fun g f w h => h) ?_
         rotate_left
         · intro g f w' hx hD hk
           obtain hkp := id hD
           clear hx hk hD hkp
           go_simp
           try rfl
         simp only [Act.put, List.setIfInBounds_toArray, List.set_cons_zero, List.set_cons_succ])
      first
      | (refine Fx.WM.skip 12 (by rfl) (by kernel_rfl) (by kernel_rfl) (by kernel_rfl) (by rfl) (fun g f w h => h) ?_; simp only [Act.put, List.setIfInBounds_toArray, List.set_cons_zero, List.set_cons_succ])
      | (refine Fx.WM.val_ 12 ?_ (by rfl) (by kernel_rfl) (by kernel_rfl) (by kernel_rfl) (by rfl) ?_ (fun g f w h => h) ?_
         rotate_left
         · intro g f w' hx hD hk
           obtain hkp := id hD
           clear hx hk hD hkp
           go_simp
           try rfl
         simp only [Act.put, List.setIfInBounds_toArray, List.set_cons_zero, List.set_cons_succ])
      first
      | (refine Fx.WM.skip 13 (by rfl) (by kernel_rfl) (by kernel_rfl) (by kernel_rfl) (by rfl) (fun g f w h => h) ?_; simp only [Act.put, List.setIfInBounds_toArray, List.set_cons_zero, List.set_cons_succ])
      | (refine Fx.WM.val_ 13 ?_ (by rfl) (by kernel_rfl) (by kernel_rfl) (by kernel_rfl) (by rfl) ?_ (fun g f w h => h) ?_
         rotate_left
         · intro g f w' hx hD hk
           obtain hkp := id hD
           clear hx hk hD hkp
           go_simp
           try rfl
         simp only [Act.put, List.setIfInBounds_toArray, List.set_cons_zero, List.set_cons_succ])
      refine Fx.WM.nil (by kernel_rfl) ?_
      intro wz hkp
      obtain ⟨⟨yA, yc⟩, y2⟩ := x
      have hb := hkp.bel
      have hr := hkp.has 8 _ (by rfl) rfl
      clear hkp
      simp only at hr
      obtain ⟨w7, hnm⟩ : ∃ z : World, z = wz := ⟨_, rfl⟩
      subst hnm
      have HT7 := Lib.hid (HT6.out.trans (Tch.of_below hb))
      have HR7 := Lib.hid hr
      have HK7 := Lib.hid (HK6.out.lay hb)
      have hsz7 := hb.size
      clear hr
      have HB7 := Lib.hid (show Below w.heap.size w w7 from step_below hb (by repeat' (first | exact Below.refl _ _ | exact HB6.out | refine below_drewN ?_ _ | refine Below.drew ?_ | refine Below.alloc ?_ (by first | omega | (simp; done) | (simp; omega) | (simp [World.setCell]; omega)) _ | refine Below.setCell ?_ (by first | omega | (simp; done) | (simp; omega)) _ | assumption)))
      have K0_7 := Lib.hid (step_blk hb (show Blk _ (w.heap.size) 24 #[.int .i64 (m.ls), .int .i64 (m.ms), .int .i64 (m.lo), .int .i64 (m.hi), .int .i64 (m.sp), .slice m.A1 m.n1 m.c1, .slice m.A2 m.n2 m.c2] by repeat' (first | exact K0_6.out | exact K1_6.out | exact Blk.at_ _ (by first | rfl | (simp; done) | (simp; omega)) _ _ | refine Blk.drewN ?_ _ | refine Blk.drew ?_ | refine Blk.alloc ?_ _ | refine Blk.far ?_ (by first | omega | (simp; done) | (simp; omega)) _ | assumption)))
      have K1_7 := Lib.hid (step_blk hb (show Blk _ (w.heap.size + 1) 26 #[.int .i64 (day), .int .i64 (pos)] by repeat' (first | exact K0_6.out | exact K1_6.out | exact Blk.at_ _ (by first | rfl | (simp; done) | (simp; omega)) _ _ | refine Blk.drewN ?_ _ | refine Blk.drew ?_ | refine Blk.alloc ?_ _ | refine Blk.far ?_ (by first | omega | (simp; done) | (simp; omega)) _ | assumption)))
      have C0_7 := Lib.hid (step_cell hb (show World.cell? _ ⟨xb, xo + k * 6, none⟩ = some (.string t.name) by first | exact C0_6.out | go_simp) (by have := hxb5; first | omega | (simp; omega)))
      have C1_7 := Lib.hid (step_cell hb (show World.cell? _ ⟨xb, xo + k * 6 + 1, none⟩ = some (.int .i64 (t.az)) by first | exact C1_6.out | go_simp) (by have := hxb5; first | omega | (simp; omega)))
      have C2_7 := Lib.hid (step_cell hb (show World.cell? _ ⟨xb, xo + k * 6 + 2, none⟩ = some (.int .i64 (t.ht)) by first | exact C2_6.out | go_simp) (by have := hxb5; first | omega | (simp; omega)))
      have C3_7 := Lib.hid (step_cell hb (show World.cell? _ ⟨xb, xo + k * 6 + 3, none⟩ = some (.int .i64 (t.fr)) by first | exact C3_6.out | go_simp) (by have := hxb5; first | omega | (simp; omega)))
      have C4_7 := Lib.hid (step_cell hb (show World.cell? _ ⟨xb, xo + k * 6 + 4, none⟩ = some (.int .i64 (t.to)) by first | exact C4_6.out | go_simp) (by have := hxb5; first | omega | (simp; omega)))
      have C5_7 := Lib.hid (step_cell hb (show World.cell? _ ⟨xb, xo + k * 6 + 5, none⟩ = some (.int .i64 (t.dw)) by first | exact C5_6.out | go_simp) (by have := hxb5; first | omega | (simp; omega)))
      have C6_7 := Lib.hid (step_cell hb (show World.cell? _ ⟨xb, xo + k' * 6, none⟩ = some (.string t'.name) by first | exact C6_6.out | go_simp) (by have := hxb6; first | omega | (simp; omega)))
      have C7_7 := Lib.hid (step_cell hb (show World.cell? _ ⟨xb, xo + k' * 6 + 1, none⟩ = some (.int .i64 (t'.az)) by first | exact C7_6.out | go_simp) (by have := hxb6; first | omega | (simp; omega)))
      have C8_7 := Lib.hid (step_cell hb (show World.cell? _ ⟨xb, xo + k' * 6 + 2, none⟩ = some (.int .i64 (t'.ht)) by first | exact C8_6.out | go_simp) (by have := hxb6; first | omega | (simp; omega)))
      have C9_7 := Lib.hid (step_cell hb (show World.cell? _ ⟨xb, xo + k' * 6 + 3, none⟩ = some (.int .i64 (t'.fr)) by first | exact C9_6.out | go_simp) (by have := hxb6; first | omega | (simp; omega)))
      have C10_7 := Lib.hid (step_cell hb (show World.cell? _ ⟨xb, xo + k' * 6 + 4, none⟩ = some (.int .i64 (t'.to)) by first | exact C10_6.out | go_simp) (by have := hxb6; first | omega | (simp; omega)))
      have C11_7 := Lib.hid (step_cell hb (show World.cell? _ ⟨xb, xo + k' * 6 + 5, none⟩ = some (.int .i64 (t'.dw)) by first | exact C11_6.out | go_simp) (by have := hxb6; first | omega | (simp; omega)))
      have hL7 := Lib.hid (show Below w6.heap.size w6 _ from reads_mid hb (by repeat' (first | exact Below.refl _ _ | refine below_drewN ?_ _ | refine Below.drew ?_ | refine Below.alloc ?_ (by first | omega | (simp; done) | (simp; omega) | (simp [World.setCell]; omega)) _ | refine Below.setCell ?_ (by first | omega | (simp; done) | (simp; omega)) _)))
      have R0_7 := Lib.hid (mnt_lay hb hL7.out R0_6.out)
      clear hL7 R0_6
      have hz7 := hb.size
      try simp only [World.size_alloc, World.drewN, World.drew] at hz7
      clear hb K0_6 K1_6 z0_0_6 z0_1_6 z0_2_6 z0_3_6 z0_4_6 z0_5_6 z0_6_6 l0_6 z1_0_6 z1_1_6 l1_6
      have l0_7 : w.heap.size < w7.heap.size := K0_7.out.lt
      have z0_0_7 : w7.cell? ⟨w.heap.size, 0, none⟩ = some (.int .i64 (m.ls)) := K0_7.out.cell 0
      have z0_1_7 : w7.cell? ⟨w.heap.size, 1, none⟩ = some (.int .i64 (m.ms)) := K0_7.out.cell 1
      have z0_2_7 : w7.cell? ⟨w.heap.size, 2, none⟩ = some (.int .i64 (m.lo)) := K0_7.out.cell 2
      have z0_3_7 : w7.cell? ⟨w.heap.size, 3, none⟩ = some (.int .i64 (m.hi)) := K0_7.out.cell 3
      have z0_4_7 : w7.cell? ⟨w.heap.size, 4, none⟩ = some (.int .i64 (m.sp)) := K0_7.out.cell 4
      have z0_5_7 : w7.cell? ⟨w.heap.size, 5, none⟩ = some (.slice m.A1 m.n1 m.c1) := K0_7.out.cell 5
      have z0_6_7 : w7.cell? ⟨w.heap.size, 6, none⟩ = some (.slice m.A2 m.n2 m.c2) := K0_7.out.cell 6
      have l1_7 : w.heap.size + 1 < w7.heap.size := K1_7.out.lt
      have z1_0_7 : w7.cell? ⟨w.heap.size + 1, 0, none⟩ = some (.int .i64 (day)) := K1_7.out.cell 0
      have z1_1_7 : w7.cell? ⟨w.heap.size + 1, 1, none⟩ = some (.int .i64 (pos)) := K1_7.out.cell 1
      go_wp2
      go_loopw [16] (fun i wr => ∃ h : Nat, h ≤ rn' ∧ i = .int .i64 h ∧ Tch (fun g => g = w3.heap.size) w7 wr ∧ RB wr w3.heap.size 3 q (rowR d j (runC (dpB m day pos l k) (froL m day pos l k) to h))) (fun i _ => rn' - (intOf i).toNat)
      case atStart => exact ⟨0, by omega, rfl, Tch.refl _ _, HK7.out.congr fun i _ => rowR_zero d j i⟩
      case round =>
        obtain ⟨h, hh, rfl, ht8, hk8⟩ := hrel
        obtain ⟨w8, hnm⟩ : ∃ z : World, z = wr := ⟨_, rfl⟩
        subst hnm
        have HT78 := Lib.hid ht8
        have HK8 := Lib.hid hk8
        have hs8 := ht8.size
        have hb8 : ∀ B, B ≤ w3.heap.size → Below B w7 w8 := fun B hB => ht8.below (B := B) (fun g hg => by have hg : g = w3.heap.size := hg; omega) (by omega)
        have HB8 := Lib.hid hb8
        have HTX := Lib.hid (HT7.out.trans ht8)
        have HR8 := Lib.hid (ht8.own HR7.out fun g hg h3 => by have h4 := (own_lt HR7.out hg).1; have h3 : g = w3.heap.size := h3; omega)
        clear ht8 hk8 hb8
        by_cases hlt6 : h < rn'
        rotate_left
        · obtain rfl : rn' = h := by omega
          have hdj := HDJ.out
          rw [HFL.out] at hdj
          have HDZ := Lib.hid hdj
          clear hdj
          go_wp2
          go_roundw
          case rel => exact ⟨j + 1, by omega, by go_num, HTX.out, HK8.out.congr fun i _ => rowD_step HDZ.out i⟩
          case measure => simp [intOf]; omega
        have hb38 : Below w3.heap.size w3 w8 := HB34.out.trans (HTX.out.below (B := w3.heap.size) (fun g hg => by have hg : g = w3.heap.size := hg; omega) (by omega))
        have hb28 := HX23.out.trans (hb38.mono HX23.out.size)
        have hbw := HBW2.out.trans (hb28.mono HBW2.out.size)
        have hb18 := HB1_2.out.trans (hb28.mono HB1_2.out.size)
        have hk0 := Blk.below K0_1.out hb18 l0_1
        have hk1 := Blk.below K1_1.out hb18 l1_1
        have hxm := HX.out.lay hbw
        have HBW8 := Lib.hid hbw
        have hsz8 := hbw.size
        have p8 := (hb28.cell (p := ⟨pb, po + k', none⟩) hpb).trans HP1.out
        obtain ⟨sb, so, bv, rfl, hsb, hb', g8⟩ := (HRR'.out.below hb28).int_ hlt6
        obtain ⟨bb, bo, kz', rfl, hbb, hkz', d8⟩ := (own_reads2 HR8.out).int_ hlt6
        have ha0 := HVP'.out h kz' hkz'
        obtain ⟨-, -, t3', t4'⟩ := turn_range (show kz' ∈ turnsV m day t' by rw [HV'.out]; exact List.mem_of_getElem? hkz')
        obtain ⟨av, hae⟩ : ∃ a, X' + kz' * 1296000 = a := ⟨_, rfl⟩
        rw [hae] at ha0
        have har0 := posV_in (List.mem_of_getElem? ha0)
        have har : PosR av := by unfold PosR; omega
        obtain ⟨v, hv⟩ : ∃ v, costF av to = v := ⟨_, rfl⟩
        have hcb := cost_bound har HPT.out
        rw [hv] at hcb
        have hval : valC (dpB m day pos l k) (froL m day pos l k) to h = bv + v := by
          unfold valC
          rw [← HXS'.out, HFRO.out, hb', ha0, ← hv]
          rfl
        have hbvr := dpB_in HM.out ⟨q5, q6⟩ HNE.out k (by rw [HLL.out]; omega) bv (by rw [← HXS'.out]; exact List.mem_of_getElem? hb')
        have v4 := IntWalk.i64_in (bv + v) ⟨by omega, by omega⟩
        have hhq : (h : Int) < (rn' : Int) := by omega
        have eh := IntWalk.i64_in ((h : Int) + 1) ⟨by omega, by omega⟩
        have hpb8 : pb < w8.heap.size := by have := HX23.out.size; have := hb38.size; omega
        have hsb8 : sb < w8.heap.size := by have := HX23.out.size; have := hb38.size; omega
        have HVL := Lib.hid hval
        have HVV := Lib.hid hv
        have HAE := Lib.hid hae
        have HAR := Lib.hid har
        clear hb38 hb28 hb18 hb' hkz' ha0 har0 hcb hval hv hae
        have HB8 := Lib.hid hbw
        have K0_8 := Lib.hid (show Blk w8 (w.heap.size) 24 #[.int .i64 (m.ls), .int .i64 (m.ms), .int .i64 (m.lo), .int .i64 (m.hi), .int .i64 (m.sp), .slice m.A1 m.n1 m.c1, .slice m.A2 m.n2 m.c2] from hk0)
        have K1_8 := Lib.hid (show Blk w8 (w.heap.size + 1) 26 #[.int .i64 (day), .int .i64 (pos)] from hk1)
        clear hbw hk0 hk1
        have l0_8 : w.heap.size < w8.heap.size := K0_8.out.lt
        have z0_0_8 : w8.cell? ⟨w.heap.size, 0, none⟩ = some (.int .i64 (m.ls)) := K0_8.out.cell 0
        have z0_1_8 : w8.cell? ⟨w.heap.size, 1, none⟩ = some (.int .i64 (m.ms)) := K0_8.out.cell 1
        have z0_2_8 : w8.cell? ⟨w.heap.size, 2, none⟩ = some (.int .i64 (m.lo)) := K0_8.out.cell 2
        have z0_3_8 : w8.cell? ⟨w.heap.size, 3, none⟩ = some (.int .i64 (m.hi)) := K0_8.out.cell 3
        have z0_4_8 : w8.cell? ⟨w.heap.size, 4, none⟩ = some (.int .i64 (m.sp)) := K0_8.out.cell 4
        have z0_5_8 : w8.cell? ⟨w.heap.size, 5, none⟩ = some (.slice m.A1 m.n1 m.c1) := K0_8.out.cell 5
        have z0_6_8 : w8.cell? ⟨w.heap.size, 6, none⟩ = some (.slice m.A2 m.n2 m.c2) := K0_8.out.cell 6
        have l1_8 : w.heap.size + 1 < w8.heap.size := K1_8.out.lt
        have z1_0_8 : w8.cell? ⟨w.heap.size + 1, 0, none⟩ = some (.int .i64 (day)) := K1_8.out.cell 0
        have z1_1_8 : w8.cell? ⟨w.heap.size + 1, 1, none⟩ = some (.int .i64 (pos)) := K1_8.out.cell 1
        have R0_8 := Lib.hid hxm
        clear hxm
        have hxb8 : xb < w8.heap.size := by omega
        have C0_8 := Lib.hid ((HBW8.out.cell (p := ⟨xb, xo + k' * 6, none⟩) hxb).trans HCY.out.1)
        have C1_8 := Lib.hid ((HBW8.out.cell (p := ⟨xb, xo + k' * 6 + 1, none⟩) hxb).trans HCY.out.2.1)
        have C2_8 := Lib.hid ((HBW8.out.cell (p := ⟨xb, xo + k' * 6 + 2, none⟩) hxb).trans HCY.out.2.2.1)
        have C3_8 := Lib.hid ((HBW8.out.cell (p := ⟨xb, xo + k' * 6 + 3, none⟩) hxb).trans HCY.out.2.2.2.1)
        have C4_8 := Lib.hid ((HBW8.out.cell (p := ⟨xb, xo + k' * 6 + 4, none⟩) hxb).trans HCY.out.2.2.2.2.1)
        have C5_8 := Lib.hid ((HBW8.out.cell (p := ⟨xb, xo + k' * 6 + 5, none⟩) hxb).trans HCY.out.2.2.2.2.2)
        go_wp2
        refine Fx.regionW (fun W f w' => Below W.heap.size W w') (by kernel_rfl) (by kernel_rfl) ?_ ?_
        · intro f hf0
          exact below_drewN (Below.refl _ _) 1
        repeat (first
          | (refine Fx.skip_ (by rfl) (fun f w h => h) ?_; simp only [Act.put, List.setIfInBounds_toArray, List.set_cons_zero, List.set_cons_succ])
          | (refine Fx.val_ ?_ (by rfl) ?_ (fun f w h => h) ?_
             rotate_left
             · intro f w' hD hk
               have hb := hD
               have kb0 := step_blk hb (show Blk _ (w.heap.size) 24 #[.int .i64 (m.ls), .int .i64 (m.ms), .int .i64 (m.lo), .int .i64 (m.hi), .int .i64 (m.sp), .slice m.A1 m.n1 m.c1, .slice m.A2 m.n2 m.c2] by repeat' (first | exact K0_8.out | exact K1_8.out | exact Blk.at_ _ (by first | rfl | (simp; done) | (simp; omega)) _ _ | refine Blk.drewN ?_ _ | refine Blk.drew ?_ | refine Blk.alloc ?_ _ | refine Blk.far ?_ (by first | omega | (simp; done) | (simp; omega)) _ | assumption))
               have y0_0 : w'.cell? ⟨w.heap.size, 0, none⟩ = some (.int .i64 (m.ls)) := kb0.cell 0
               have y0_1 : w'.cell? ⟨w.heap.size, 1, none⟩ = some (.int .i64 (m.ms)) := kb0.cell 1
               have y0_2 : w'.cell? ⟨w.heap.size, 2, none⟩ = some (.int .i64 (m.lo)) := kb0.cell 2
               have y0_3 : w'.cell? ⟨w.heap.size, 3, none⟩ = some (.int .i64 (m.hi)) := kb0.cell 3
               have y0_4 : w'.cell? ⟨w.heap.size, 4, none⟩ = some (.int .i64 (m.sp)) := kb0.cell 4
               have y0_5 : w'.cell? ⟨w.heap.size, 5, none⟩ = some (.slice m.A1 m.n1 m.c1) := kb0.cell 5
               have y0_6 : w'.cell? ⟨w.heap.size, 6, none⟩ = some (.slice m.A2 m.n2 m.c2) := kb0.cell 6
               have kb1 := step_blk hb (show Blk _ (w.heap.size + 1) 26 #[.int .i64 (day), .int .i64 (pos)] by repeat' (first | exact K0_8.out | exact K1_8.out | exact Blk.at_ _ (by first | rfl | (simp; done) | (simp; omega)) _ _ | refine Blk.drewN ?_ _ | refine Blk.drew ?_ | refine Blk.alloc ?_ _ | refine Blk.far ?_ (by first | omega | (simp; done) | (simp; omega)) _ | assumption))
               have y1_0 : w'.cell? ⟨w.heap.size + 1, 0, none⟩ = some (.int .i64 (day)) := kb1.cell 0
               have y1_1 : w'.cell? ⟨w.heap.size + 1, 1, none⟩ = some (.int .i64 (pos)) := kb1.cell 1
               have yc0 : w'.cell? ⟨xb, xo + k' * 6, none⟩ = some (.string t'.name) := step_cell hb (show World.cell? _ ⟨xb, xo + k' * 6, none⟩ = some (.string t'.name) by first | exact C0_8.out | go_simp) (by have := hxb8; first | omega | (simp; omega))
               have yc1 : w'.cell? ⟨xb, xo + k' * 6 + 1, none⟩ = some (.int .i64 (t'.az)) := step_cell hb (show World.cell? _ ⟨xb, xo + k' * 6 + 1, none⟩ = some (.int .i64 (t'.az)) by first | exact C1_8.out | go_simp) (by have := hxb8; first | omega | (simp; omega))
               have yc2 : w'.cell? ⟨xb, xo + k' * 6 + 2, none⟩ = some (.int .i64 (t'.ht)) := step_cell hb (show World.cell? _ ⟨xb, xo + k' * 6 + 2, none⟩ = some (.int .i64 (t'.ht)) by first | exact C2_8.out | go_simp) (by have := hxb8; first | omega | (simp; omega))
               have yc3 : w'.cell? ⟨xb, xo + k' * 6 + 3, none⟩ = some (.int .i64 (t'.fr)) := step_cell hb (show World.cell? _ ⟨xb, xo + k' * 6 + 3, none⟩ = some (.int .i64 (t'.fr)) by first | exact C3_8.out | go_simp) (by have := hxb8; first | omega | (simp; omega))
               have yc4 : w'.cell? ⟨xb, xo + k' * 6 + 4, none⟩ = some (.int .i64 (t'.to)) := step_cell hb (show World.cell? _ ⟨xb, xo + k' * 6 + 4, none⟩ = some (.int .i64 (t'.to)) by first | exact C4_8.out | go_simp) (by have := hxb8; first | omega | (simp; omega))
               have yc5 : w'.cell? ⟨xb, xo + k' * 6 + 5, none⟩ = some (.int .i64 (t'.dw)) := step_cell hb (show World.cell? _ ⟨xb, xo + k' * 6 + 5, none⟩ = some (.int .i64 (t'.dw)) by first | exact C5_8.out | go_simp) (by have := hxb8; first | omega | (simp; omega))
               have x7 := (hb.cell (p := ⟨pb, po + k', none⟩) hpb8).trans p8
               have x8 := (hb.cell (p := ⟨sb, so + h, none⟩) hsb8).trans g8
               have x9 := (hb.cell (p := ⟨bb, bo + h, none⟩) hbb).trans d8
               clear kb0 kb1
               clear hk hD hb
               go_simp
               try rfl
             simp only [Act.put, List.setIfInBounds_toArray, List.set_cons_zero, List.set_cons_succ]))
        refine Fx.call_ (.int .i64 (av)) ?_ ?_ (by rfl) ?_ ?_ ?_
        rotate_left 2
        · intro w'
          go_simp
          refine ⟨?_, ?_⟩ <;> rfl
        · intro f w' hD hk
          exact (rposition_is m t' day kz' X' Y' av HA'.out HAE.out ⟨by omega, by omega⟩ w' (R0_8.out.lay hD) HM.out HE1'.out HD.out).mono fun e w'' ⟨he, hw⟩ => ⟨he, step_below hw hD⟩
        simp only [Act.put, List.setIfInBounds_toArray, List.set_cons_zero, List.set_cons_succ]
        repeat (first
          | (refine Fx.skip_ (by rfl) (fun f w h => h) ?_; simp only [Act.put, List.setIfInBounds_toArray, List.set_cons_zero, List.set_cons_succ])
          | (refine Fx.val_ ?_ (by rfl) ?_ (fun f w h => h) ?_
             rotate_left
             · intro f w' hD hk
               have hb := hD
               have kb0 := step_blk hb (show Blk _ (w.heap.size) 24 #[.int .i64 (m.ls), .int .i64 (m.ms), .int .i64 (m.lo), .int .i64 (m.hi), .int .i64 (m.sp), .slice m.A1 m.n1 m.c1, .slice m.A2 m.n2 m.c2] by repeat' (first | exact K0_8.out | exact K1_8.out | exact Blk.at_ _ (by first | rfl | (simp; done) | (simp; omega)) _ _ | refine Blk.drewN ?_ _ | refine Blk.drew ?_ | refine Blk.alloc ?_ _ | refine Blk.far ?_ (by first | omega | (simp; done) | (simp; omega)) _ | assumption))
               have y0_0 : w'.cell? ⟨w.heap.size, 0, none⟩ = some (.int .i64 (m.ls)) := kb0.cell 0
               have y0_1 : w'.cell? ⟨w.heap.size, 1, none⟩ = some (.int .i64 (m.ms)) := kb0.cell 1
               have y0_2 : w'.cell? ⟨w.heap.size, 2, none⟩ = some (.int .i64 (m.lo)) := kb0.cell 2
               have y0_3 : w'.cell? ⟨w.heap.size, 3, none⟩ = some (.int .i64 (m.hi)) := kb0.cell 3
               have y0_4 : w'.cell? ⟨w.heap.size, 4, none⟩ = some (.int .i64 (m.sp)) := kb0.cell 4
               have y0_5 : w'.cell? ⟨w.heap.size, 5, none⟩ = some (.slice m.A1 m.n1 m.c1) := kb0.cell 5
               have y0_6 : w'.cell? ⟨w.heap.size, 6, none⟩ = some (.slice m.A2 m.n2 m.c2) := kb0.cell 6
               have kb1 := step_blk hb (show Blk _ (w.heap.size + 1) 26 #[.int .i64 (day), .int .i64 (pos)] by repeat' (first | exact K0_8.out | exact K1_8.out | exact Blk.at_ _ (by first | rfl | (simp; done) | (simp; omega)) _ _ | refine Blk.drewN ?_ _ | refine Blk.drew ?_ | refine Blk.alloc ?_ _ | refine Blk.far ?_ (by first | omega | (simp; done) | (simp; omega)) _ | assumption))
               have y1_0 : w'.cell? ⟨w.heap.size + 1, 0, none⟩ = some (.int .i64 (day)) := kb1.cell 0
               have y1_1 : w'.cell? ⟨w.heap.size + 1, 1, none⟩ = some (.int .i64 (pos)) := kb1.cell 1
               have yc0 : w'.cell? ⟨xb, xo + k' * 6, none⟩ = some (.string t'.name) := step_cell hb (show World.cell? _ ⟨xb, xo + k' * 6, none⟩ = some (.string t'.name) by first | exact C0_8.out | go_simp) (by have := hxb8; first | omega | (simp; omega))
               have yc1 : w'.cell? ⟨xb, xo + k' * 6 + 1, none⟩ = some (.int .i64 (t'.az)) := step_cell hb (show World.cell? _ ⟨xb, xo + k' * 6 + 1, none⟩ = some (.int .i64 (t'.az)) by first | exact C1_8.out | go_simp) (by have := hxb8; first | omega | (simp; omega))
               have yc2 : w'.cell? ⟨xb, xo + k' * 6 + 2, none⟩ = some (.int .i64 (t'.ht)) := step_cell hb (show World.cell? _ ⟨xb, xo + k' * 6 + 2, none⟩ = some (.int .i64 (t'.ht)) by first | exact C2_8.out | go_simp) (by have := hxb8; first | omega | (simp; omega))
               have yc3 : w'.cell? ⟨xb, xo + k' * 6 + 3, none⟩ = some (.int .i64 (t'.fr)) := step_cell hb (show World.cell? _ ⟨xb, xo + k' * 6 + 3, none⟩ = some (.int .i64 (t'.fr)) by first | exact C3_8.out | go_simp) (by have := hxb8; first | omega | (simp; omega))
               have yc4 : w'.cell? ⟨xb, xo + k' * 6 + 4, none⟩ = some (.int .i64 (t'.to)) := step_cell hb (show World.cell? _ ⟨xb, xo + k' * 6 + 4, none⟩ = some (.int .i64 (t'.to)) by first | exact C4_8.out | go_simp) (by have := hxb8; first | omega | (simp; omega))
               have yc5 : w'.cell? ⟨xb, xo + k' * 6 + 5, none⟩ = some (.int .i64 (t'.dw)) := step_cell hb (show World.cell? _ ⟨xb, xo + k' * 6 + 5, none⟩ = some (.int .i64 (t'.dw)) by first | exact C5_8.out | go_simp) (by have := hxb8; first | omega | (simp; omega))
               have x7 := (hb.cell (p := ⟨pb, po + k', none⟩) hpb8).trans p8
               have x8 := (hb.cell (p := ⟨sb, so + h, none⟩) hsb8).trans g8
               have x9 := (hb.cell (p := ⟨bb, bo + h, none⟩) hbb).trans d8
               clear kb0 kb1
               clear hk hD hb
               go_simp
               try rfl
             simp only [Act.put, List.setIfInBounds_toArray, List.set_cons_zero, List.set_cons_succ]))
        refine Fx.call_ (.int .i64 (v)) ?_ ?_ (by rfl) ?_ ?_ ?_
        rotate_left 2
        · intro w'
          go_simp
          refine ⟨?_, ?_⟩ <;> rfl
        · intro f w' hD hk
          exact (rcost9_is av to v HVV.out _ HAR.out HPT.out).mono fun e w'' ⟨he, hw⟩ => ⟨he, hw ▸ hD⟩
        simp only [Act.put, List.setIfInBounds_toArray, List.set_cons_zero, List.set_cons_succ]
        repeat (first
          | (refine Fx.skip_ (by rfl) (fun f w h => h) ?_; simp only [Act.put, List.setIfInBounds_toArray, List.set_cons_zero, List.set_cons_succ])
          | (refine Fx.val_ ?_ (by rfl) ?_ (fun f w h => h) ?_
             rotate_left
             · intro f w' hD hk
               have hb := hD
               have kb0 := step_blk hb (show Blk _ (w.heap.size) 24 #[.int .i64 (m.ls), .int .i64 (m.ms), .int .i64 (m.lo), .int .i64 (m.hi), .int .i64 (m.sp), .slice m.A1 m.n1 m.c1, .slice m.A2 m.n2 m.c2] by repeat' (first | exact K0_8.out | exact K1_8.out | exact Blk.at_ _ (by first | rfl | (simp; done) | (simp; omega)) _ _ | refine Blk.drewN ?_ _ | refine Blk.drew ?_ | refine Blk.alloc ?_ _ | refine Blk.far ?_ (by first | omega | (simp; done) | (simp; omega)) _ | assumption))
               have y0_0 : w'.cell? ⟨w.heap.size, 0, none⟩ = some (.int .i64 (m.ls)) := kb0.cell 0
               have y0_1 : w'.cell? ⟨w.heap.size, 1, none⟩ = some (.int .i64 (m.ms)) := kb0.cell 1
               have y0_2 : w'.cell? ⟨w.heap.size, 2, none⟩ = some (.int .i64 (m.lo)) := kb0.cell 2
               have y0_3 : w'.cell? ⟨w.heap.size, 3, none⟩ = some (.int .i64 (m.hi)) := kb0.cell 3
               have y0_4 : w'.cell? ⟨w.heap.size, 4, none⟩ = some (.int .i64 (m.sp)) := kb0.cell 4
               have y0_5 : w'.cell? ⟨w.heap.size, 5, none⟩ = some (.slice m.A1 m.n1 m.c1) := kb0.cell 5
               have y0_6 : w'.cell? ⟨w.heap.size, 6, none⟩ = some (.slice m.A2 m.n2 m.c2) := kb0.cell 6
               have kb1 := step_blk hb (show Blk _ (w.heap.size + 1) 26 #[.int .i64 (day), .int .i64 (pos)] by repeat' (first | exact K0_8.out | exact K1_8.out | exact Blk.at_ _ (by first | rfl | (simp; done) | (simp; omega)) _ _ | refine Blk.drewN ?_ _ | refine Blk.drew ?_ | refine Blk.alloc ?_ _ | refine Blk.far ?_ (by first | omega | (simp; done) | (simp; omega)) _ | assumption))
               have y1_0 : w'.cell? ⟨w.heap.size + 1, 0, none⟩ = some (.int .i64 (day)) := kb1.cell 0
               have y1_1 : w'.cell? ⟨w.heap.size + 1, 1, none⟩ = some (.int .i64 (pos)) := kb1.cell 1
               have yc0 : w'.cell? ⟨xb, xo + k' * 6, none⟩ = some (.string t'.name) := step_cell hb (show World.cell? _ ⟨xb, xo + k' * 6, none⟩ = some (.string t'.name) by first | exact C0_8.out | go_simp) (by have := hxb8; first | omega | (simp; omega))
               have yc1 : w'.cell? ⟨xb, xo + k' * 6 + 1, none⟩ = some (.int .i64 (t'.az)) := step_cell hb (show World.cell? _ ⟨xb, xo + k' * 6 + 1, none⟩ = some (.int .i64 (t'.az)) by first | exact C1_8.out | go_simp) (by have := hxb8; first | omega | (simp; omega))
               have yc2 : w'.cell? ⟨xb, xo + k' * 6 + 2, none⟩ = some (.int .i64 (t'.ht)) := step_cell hb (show World.cell? _ ⟨xb, xo + k' * 6 + 2, none⟩ = some (.int .i64 (t'.ht)) by first | exact C2_8.out | go_simp) (by have := hxb8; first | omega | (simp; omega))
               have yc3 : w'.cell? ⟨xb, xo + k' * 6 + 3, none⟩ = some (.int .i64 (t'.fr)) := step_cell hb (show World.cell? _ ⟨xb, xo + k' * 6 + 3, none⟩ = some (.int .i64 (t'.fr)) by first | exact C3_8.out | go_simp) (by have := hxb8; first | omega | (simp; omega))
               have yc4 : w'.cell? ⟨xb, xo + k' * 6 + 4, none⟩ = some (.int .i64 (t'.to)) := step_cell hb (show World.cell? _ ⟨xb, xo + k' * 6 + 4, none⟩ = some (.int .i64 (t'.to)) by first | exact C4_8.out | go_simp) (by have := hxb8; first | omega | (simp; omega))
               have yc5 : w'.cell? ⟨xb, xo + k' * 6 + 5, none⟩ = some (.int .i64 (t'.dw)) := step_cell hb (show World.cell? _ ⟨xb, xo + k' * 6 + 5, none⟩ = some (.int .i64 (t'.dw)) by first | exact C5_8.out | go_simp) (by have := hxb8; first | omega | (simp; omega))
               have x7 := (hb.cell (p := ⟨pb, po + k', none⟩) hpb8).trans p8
               have x8 := (hb.cell (p := ⟨sb, so + h, none⟩) hsb8).trans g8
               have x9 := (hb.cell (p := ⟨bb, bo + h, none⟩) hbb).trans d8
               clear kb0 kb1
               clear hk hD hb
               go_simp
               try rfl
             simp only [Act.put, List.setIfInBounds_toArray, List.set_cons_zero, List.set_cons_succ]))
        refine Fx.nil_ ?_
        intro f w9 hall hb
        try clear hall
        have HB89 := Lib.hid hb
        have HB9 := Lib.hid (show Below w.heap.size w w9 from step_below hb (by repeat' (first | exact Below.refl _ _ | exact HB8.out | refine below_drewN ?_ _ | refine Below.drew ?_ | refine Below.alloc ?_ (by first | omega | (simp; done) | (simp; omega) | (simp [World.setCell]; omega)) _ | refine Below.setCell ?_ (by first | omega | (simp; done) | (simp; omega)) _ | assumption)))
        have K0_9 := Lib.hid (step_blk hb (show Blk _ (w.heap.size) 24 #[.int .i64 (m.ls), .int .i64 (m.ms), .int .i64 (m.lo), .int .i64 (m.hi), .int .i64 (m.sp), .slice m.A1 m.n1 m.c1, .slice m.A2 m.n2 m.c2] by repeat' (first | exact K0_8.out | exact K1_8.out | exact Blk.at_ _ (by first | rfl | (simp; done) | (simp; omega)) _ _ | refine Blk.drewN ?_ _ | refine Blk.drew ?_ | refine Blk.alloc ?_ _ | refine Blk.far ?_ (by first | omega | (simp; done) | (simp; omega)) _ | assumption)))
        have K1_9 := Lib.hid (step_blk hb (show Blk _ (w.heap.size + 1) 26 #[.int .i64 (day), .int .i64 (pos)] by repeat' (first | exact K0_8.out | exact K1_8.out | exact Blk.at_ _ (by first | rfl | (simp; done) | (simp; omega)) _ _ | refine Blk.drewN ?_ _ | refine Blk.drew ?_ | refine Blk.alloc ?_ _ | refine Blk.far ?_ (by first | omega | (simp; done) | (simp; omega)) _ | assumption)))
        have C0_9 := Lib.hid (step_cell hb (show World.cell? _ ⟨xb, xo + k' * 6, none⟩ = some (.string t'.name) by first | exact C0_8.out | go_simp) (by have := hxb8; first | omega | (simp; omega)))
        have C1_9 := Lib.hid (step_cell hb (show World.cell? _ ⟨xb, xo + k' * 6 + 1, none⟩ = some (.int .i64 (t'.az)) by first | exact C1_8.out | go_simp) (by have := hxb8; first | omega | (simp; omega)))
        have C2_9 := Lib.hid (step_cell hb (show World.cell? _ ⟨xb, xo + k' * 6 + 2, none⟩ = some (.int .i64 (t'.ht)) by first | exact C2_8.out | go_simp) (by have := hxb8; first | omega | (simp; omega)))
        have C3_9 := Lib.hid (step_cell hb (show World.cell? _ ⟨xb, xo + k' * 6 + 3, none⟩ = some (.int .i64 (t'.fr)) by first | exact C3_8.out | go_simp) (by have := hxb8; first | omega | (simp; omega)))
        have C4_9 := Lib.hid (step_cell hb (show World.cell? _ ⟨xb, xo + k' * 6 + 4, none⟩ = some (.int .i64 (t'.to)) by first | exact C4_8.out | go_simp) (by have := hxb8; first | omega | (simp; omega)))
        have C5_9 := Lib.hid (step_cell hb (show World.cell? _ ⟨xb, xo + k' * 6 + 5, none⟩ = some (.int .i64 (t'.dw)) by first | exact C5_8.out | go_simp) (by have := hxb8; first | omega | (simp; omega)))
        have hL9 := Lib.hid (show Below w8.heap.size w8 _ from reads_mid hb (by repeat' (first | exact Below.refl _ _ | refine below_drewN ?_ _ | refine Below.drew ?_ | refine Below.alloc ?_ (by first | omega | (simp; done) | (simp; omega) | (simp [World.setCell]; omega)) _ | refine Below.setCell ?_ (by first | omega | (simp; done) | (simp; omega)) _)))
        have R0_9 := Lib.hid (mnt_lay hb hL9.out R0_8.out)
        clear hL9 R0_8
        have hz9 := hb.size
        try simp only [World.size_alloc, World.drewN, World.drew] at hz9
        clear hb K0_8 K1_8 z0_0_8 z0_1_8 z0_2_8 z0_3_8 z0_4_8 z0_5_8 z0_6_8 l0_8 z1_0_8 z1_1_8 l1_8
        have l0_9 : w.heap.size < w9.heap.size := K0_9.out.lt
        have z0_0_9 : w9.cell? ⟨w.heap.size, 0, none⟩ = some (.int .i64 (m.ls)) := K0_9.out.cell 0
        have z0_1_9 : w9.cell? ⟨w.heap.size, 1, none⟩ = some (.int .i64 (m.ms)) := K0_9.out.cell 1
        have z0_2_9 : w9.cell? ⟨w.heap.size, 2, none⟩ = some (.int .i64 (m.lo)) := K0_9.out.cell 2
        have z0_3_9 : w9.cell? ⟨w.heap.size, 3, none⟩ = some (.int .i64 (m.hi)) := K0_9.out.cell 3
        have z0_4_9 : w9.cell? ⟨w.heap.size, 4, none⟩ = some (.int .i64 (m.sp)) := K0_9.out.cell 4
        have z0_5_9 : w9.cell? ⟨w.heap.size, 5, none⟩ = some (.slice m.A1 m.n1 m.c1) := K0_9.out.cell 5
        have z0_6_9 : w9.cell? ⟨w.heap.size, 6, none⟩ = some (.slice m.A2 m.n2 m.c2) := K0_9.out.cell 6
        have l1_9 : w.heap.size + 1 < w9.heap.size := K1_9.out.lt
        have z1_0_9 : w9.cell? ⟨w.heap.size + 1, 0, none⟩ = some (.int .i64 (day)) := K1_9.out.cell 0
        have z1_1_9 : w9.cell? ⟨w.heap.size + 1, 1, none⟩ = some (.int .i64 (pos)) := K1_9.out.cell 1
        have HK9 := Lib.hid (HK8.out.lay HB89.out)
        have HT9 := Lib.hid (HT78.out.trans (Tch.of_below HB89.out))
        have hsz9 := HB89.out.size
        have hold := HK9.out.cell hlt2
        have hofr := HK9.out.frozen j
        clear p8 g8 d8
        have HOLD := Lib.hid hold
        have HOFR := Lib.hid hofr
        obtain ⟨ru, hru⟩ : ∃ ru, runC (dpB m day pos l k) (froL m day pos l k) to h = ru := ⟨_, rfl⟩
        have hstep : runC (dpB m day pos l k) (froL m day pos l k) to (h + 1) = if h = 0 ∨ bv + v < ru then bv + v else ru := by
          rw [← hru, ← HVL.out]; rfl
        have HSTEP := Lib.hid hstep
        have HRU := Lib.hid hru
        have hcj : w9.cell? ⟨w3.heap.size, j, none⟩ = some (.int .i64 ru) := by
          rw [HOLD.out]
          simp [rowR, hru]
        clear hold hofr hstep hru HOLD
        by_cases h0' : h = 0
        · have e1 : ((h : Int) == 0) = true := by rw [h0']; rfl
          have HS2 := Lib.hid (show runC (dpB m day pos l k) (froL m day pos l k) to (h + 1) = bv + v by rw [HSTEP.out, if_pos (.inl h0')])
          clear h0'
          have hofr := HOFR.out
          go_wp2
          go_roundw
          case rel => exact ⟨h + 1, by omega, by go_num, HT9.out.setCell (.inl rfl) _, (RB.set_ HK9.out j _).congr fun i _ => by rw [HS2.out]; exact rowR_set d j _ _ i⟩
          case measure => simp [intOf]; omega
        have e1 : ((h : Int) == 0) = false := by rw [beq_eq_false_iff_ne]; omega
        obtain ⟨tt, htt⟩ : ∃ tt, decide (bv + v < ru) = tt := ⟨_, rfl⟩
        cases tt
        · have HS2 := Lib.hid (show runC (dpB m day pos l k) (froL m day pos l k) to (h + 1) = ru by rw [HSTEP.out, if_neg (by have := of_decide_eq_false htt; omega)])
          clear h0'
          go_wp2
          go_roundw
          case rel => exact ⟨h + 1, by omega, by go_num, HT9.out, HK9.out.congr fun i _ => by rw [HS2.out, HRU.out]⟩
          case measure => simp [intOf]; omega
        · have HS2 := Lib.hid (show runC (dpB m day pos l k) (froL m day pos l k) to (h + 1) = bv + v by rw [HSTEP.out, if_pos (.inr (of_decide_eq_true htt))])
          have hofr := HOFR.out
          clear h0'
          go_wp2
          go_roundw
          case rel => exact ⟨h + 1, by omega, by go_num, HT9.out.setCell (.inl rfl) _, (RB.set_ HK9.out j _).congr fun i _ => by rw [HS2.out]; exact rowR_set d j _ _ i⟩
          case measure => simp [intOf]; omega
end Go.Proofs.Ytclnffpfbngjoaa

end
