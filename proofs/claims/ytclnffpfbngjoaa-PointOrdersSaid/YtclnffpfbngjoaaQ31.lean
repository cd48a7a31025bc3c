import Derived.Test.YtclnffpfbngjoaaQ30
import Derived.RangeFuncWrites
import Derived.Test.YtclnffpfbngjoaaQ2

section
/- Contract of the reference's search of the best order: the step, all orders, and the best of them. -/
namespace Go.Proofs.Ytclnffpfbngjoaa
open Go Go.RowKit

/-- A region that copies a list (operation 5), makes one of one number (7), appends it to the copy (8) and goes on with that (9). -/
structure TaD (E : World → World → Prop) (z : Int) (k : Nat) (o : List Value) (W : World) (g : Nat → Option Pick) (f : Nat → Bool) (w' : World) : Prop where
  bel : f 9 = false → Below W.heap.size W w'
  cp : f 9 = false → ∀ x, g 5 = some x → g 8 = none → w'.ownsRow W.heap.size 3 1 (.slice x.1 k x.2) k o
  li : f 9 = false → ∀ x, g 7 = some x → g 8 = none → Reads w' w'.heap.size 1 x.1 1 [.int .i64 z]
  ap : f 9 = false → ∀ x, g 8 = some x → w'.ownsRow W.heap.size 3 1 (.slice x.1 (k + 1) x.2) (k + 1) (o ++ [.int .i64 z])
  en : f 9 = true → E W w'
section
variable {E : World → World → Prop} {z : Int} {k j : Nat} {o : List Value} {W w' w'' : World} {g : Nat → Option Pick} {f : Nat → Bool}
theorem TaD.start (h : f 9 = false) : TaD E z k o W (fun _ => none) f (W.drewN 1) := ⟨fun _ => below_drewN (Below.refl _ _) 1, fun _ _ h => (nomatch h), fun _ _ h => (nomatch h), fun _ _ h => (nomatch h), fun e => by rw [h] at e; cases e⟩
theorem TaD.same (h : TaD E z k o W g f w') (hj : j ≠ 9) : TaD E z k o W g (Fx.add f j) w' := by
  have e : Fx.add f j 9 = f 9 := add_ne' hj
  exact ⟨fun q => h.bel (e ▸ q), fun q => h.cp (e ▸ q), fun q => h.li (e ▸ q), fun q => h.ap (e ▸ q), fun q => h.en (e ▸ q)⟩
theorem TaD.copy {A : Option Addr} {c : Nat} (h : TaD E z k o W g f w') (hf : f 9 = false) (h8 : g 8 = none) (hb : Below w'.heap.size w' w'') (ho : w''.ownsRow w'.heap.size 3 1 (.slice A k c) k o) : TaD E z k o W (Fx.upd g 5 (A, c)) (Fx.add f 5) w'' := by
  have e : Fx.add f 5 9 = f 9 := add_ne' (by decide)
  have hW := h.bel hf
  refine ⟨fun _ => step_below hb hW, fun _ x hx _ => ?_, fun _ x hx hn => ?_, fun _ x hx => ?_, fun q => by rw [e, hf] at q; cases q⟩
  · rw [Fx.upd_same] at hx
    cases hx
    exact own_mono ho hW.size
  · rw [upd_ne (by decide)] at hx
    exact ((h.li hf x hx h8).below hb).more hb.size
  · rw [upd_ne (by decide), h8] at hx
    cases hx
theorem TaD.lit (h : TaD E z k o W g f w') (hf : f 9 = false) (h8 : g 8 = none) : TaD E z k o W (Fx.upd g 7 (some ⟨w'.heap.size, 0, none⟩, 0)) (Fx.add f 7) (w'.alloc (.cells #[.int .i64 z] 3)) := by
  have e : Fx.add f 7 9 = f 9 := add_ne' (by decide)
  have hW := h.bel hf
  have hb : Below w'.heap.size w' (w'.alloc (.cells #[.int .i64 z] 3)) := (Below.refl _ _).alloc (Nat.le_refl _) _
  refine ⟨fun _ => step_below hb hW, fun _ x hx _ => ?_, fun _ x hx hn => ?_, fun _ x hx => ?_, fun q => by rw [e, hf] at q; cases q⟩
  · rw [upd_ne (by decide)] at hx
    exact own_below (h.cp hf x hx h8) hb (Nat.le_refl _)
  · rw [Fx.upd_same] at hx
    cases hx
    exact Blk.reads (Blk.new _ _ _) rfl
  · rw [upd_ne (by decide), h8] at hx
    cases hx
theorem TaD.app {x y : Pick} (h : TaD E z k o W g f w') (hf : f 9 = false) (hx : g 5 = some x) (hy : g 7 = some y) (h8 : g 8 = none) (hk : k ≤ 100000) :
    ∃ (u : Pick) (w2 : World), (Builtin.append_ #[31, 31] 31 #[.slice x.1 k x.2, .slice y.1 1 1]).run Try.prog w' = .ok (.slice u.1 (k + 1) u.2) w2 ∧ TaD E z k o W (Fx.upd g 8 u) (Fx.add f 8) w2 := by
  obtain ⟨i0, hi0, hz0, hz1, hz2⟩ := info_parts info_int
  have hW := h.bel hf
  have ho := h.cp hf x hx h8
  obtain ⟨v', w2, hrun, ho2, hg, -⟩ := run_append_any (P := Try.prog) w' W.heap.size 31 31 3 i0 _ 1 8 Try.underlying31 hi0 hz0 hz1 hz2 rfl (by omega) _ k o ho _ y.1 1 1 [.int .i64 z] (h.li hf y hy h8) (by simp [Value.oneCell']) (by unfold maxLen; omega) (by omega) hW.size
  obtain ⟨A', c', rfl, -⟩ := own_reads ho2
  have e : Fx.add f 8 9 = f 9 := add_ne' (by decide)
  have e8 : Fx.upd g 8 (A', c') 8 = some (A', c') := Fx.upd_same
  refine ⟨(A', c'), w2, hrun, fun _ => hW.grown hg hW.size (fun q hq => (own_lt ho hq).1), fun _ u _ hn => (by rw [e8] at hn; cases hn), fun _ u _ hn => (by rw [e8] at hn; cases hn), fun _ u hu => ?_, fun q => by rw [e, hf] at q; cases q⟩
  rw [e8] at hu
  cases hu
  exact ho2
theorem TaD.end_ (hE : E W w'') : TaD E z k o W g (Fx.add f 9) w'' := by
  have e : Fx.add f 9 9 = true := add_same
  exact ⟨fun q => (by rw [e] at q; cases q), fun q => (by rw [e] at q; cases q), fun q => (by rw [e] at q; cases q), fun q => (by rw [e] at q; cases q), fun _ => hE⟩
end

def TryPost (bs : Nat) (st' : BestO) (w : World) (e : Ending) (w' : World) : Prop := e = .returned (.tuple #[]) ∧ Tch (fun g => g = bs) w w' ∧ SrAt bs st' w'

set_option maxHeartbeats 4000000 in
set_option maxRecDepth 100000 in
theorem rtry_step (m : Mnt) (day pos : Int) (l : List Tgt) (A : Option Addr) (n c : Nat) (hn20 : n ≤ 20) (w0 : World) (hM0 : MntAt m w0) (hl0 : Reads w0 w0.heap.size 6 A n (tgtCells l)) (bs : Nat) (hbs : w0.heap.size ≤ bs) (f : Nat)
    (hih : ∀ (o : List Nat) (st : BestO) (oA : Option Addr) (k oc : Nat) (w : World), OrdAt n f o → o.length = k → Below w0.heap.size w0 w → SrAt bs st w → w.ownsRow (bs + 1) 3 1 (.slice oA k oc) k ((ordI o).map (.int .i64)) →
      Calls Try.prog 29 #[.pointer (some ⟨bs, 0, none⟩), m.val, .slice A n c, .agg #[.int .i64 day, .int .i64 pos], .slice oA k oc] w (TryPost bs (foldO (costO m day pos l) st (leavesT n f o)) w))
    (o : List Nat) (st : BestO) (oA : Option Addr) (k oc : Nat) (hO : OrdAt n (f + 1) o) (hok : o.length = k) (w : World) (hb0 : Below w0.heap.size w0 w) (hs : SrAt bs st w) (ho : w.ownsRow (bs + 1) 3 1 (.slice oA k oc) k ((ordI o).map (.int .i64))) :
    Calls Try.prog 29 #[.pointer (some ⟨bs, 0, none⟩), m.val, .slice A n c, .agg #[.int .i64 day, .int .i64 pos], .slice oA k oc] w (TryPost bs (foldO (costO m day pos l) st (leavesT n (f + 1) o)) w) := by
  have hkn : k < n := by have := hO.1; omega
  have e0 : ((k : Int) == (n : Int)) = false := by rw [beq_eq_false_iff_ne]; omega
  have hlb := hs.lt
  have HOK := Lib.hid hok
  have HOO := Lib.hid hO
  have HM0 := Lib.hid hM0
  have HL0 := Lib.hid hl0
  have HS := Lib.hid hs
  have HOW := Lib.hid ho
  have HB0 := Lib.hid hb0
  have HIH := Lib.hid hih
  have HSZ := hb0.size
  clear hok hs ho hb0 hM0 hl0 hO hih
  unfold Mnt.val
  go_enter Try.func29, Try.ntmps29
  go_wp2
  generalize hwn : ((w.alloc (.cells #[.int .i64 (m.ls), .int .i64 (m.ms), .int .i64 (m.lo), .int .i64 (m.hi), .int .i64 (m.sp), .slice m.A1 m.n1 m.c1, .slice m.A2 m.n2 m.c2] 24)).alloc (.cells #[.int .i64 (day), .int .i64 (pos)] 26)) = w1
  have hbn : Below w.heap.size w w1 := by rw [← hwn]; repeat' (first | exact Below.refl _ _ | refine below_drewN ?_ _ | refine Below.drew ?_ | refine Below.alloc ?_ (by first | omega | (simp; done) | (simp; omega) | (simp [World.setCell]; omega)) _ | refine Below.setCell ?_ (by first | omega | (simp; done) | (simp; omega)) _)
  have HB1 := Lib.hid (show Below w.heap.size w w1 from hbn)
  have K0_1 := Lib.hid (show Blk w1 (w.heap.size) 24 #[.int .i64 (m.ls), .int .i64 (m.ms), .int .i64 (m.lo), .int .i64 (m.hi), .int .i64 (m.sp), .slice m.A1 m.n1 m.c1, .slice m.A2 m.n2 m.c2] by rw [← hwn]; repeat' (first | exact Blk.at_ _ (by first | rfl | (simp; done) | (simp; omega)) _ _ | refine Blk.drewN ?_ _ | refine Blk.drew ?_ | refine Blk.alloc ?_ _ | refine Blk.far ?_ (by first | omega | (simp; done) | (simp; omega)) _ | assumption))
  have K1_1 := Lib.hid (show Blk w1 (w.heap.size + 1) 26 #[.int .i64 (day), .int .i64 (pos)] by rw [← hwn]; repeat' (first | exact Blk.at_ _ (by first | rfl | (simp; done) | (simp; omega)) _ _ | refine Blk.drewN ?_ _ | refine Blk.drew ?_ | refine Blk.alloc ?_ _ | refine Blk.far ?_ (by first | omega | (simp; done) | (simp; omega)) _ | assumption))
  have HN1 := Lib.hid hbn
  have hz1 := hbn.size
  clear hwn hbn
  have l0_1 : w.heap.size < w1.heap.size := K0_1.out.lt
  have z0_0_1 : w1.cell? ⟨w.heap.size, 0, none⟩ = some (.int .i64 (m.ls)) := K0_1.out.cell 0
  have z0_1_1 : w1.cell? ⟨w.heap.size, 1, none⟩ = some (.int .i64 (m.ms)) := K0_1.out.cell 1
  have z0_2_1 : w1.cell? ⟨w.heap.size, 2, none⟩ = some (.int .i64 (m.lo)) := K0_1.out.cell 2
  have z0_3_1 : w1.cell? ⟨w.heap.size, 3, none⟩ = some (.int .i64 (m.hi)) := K0_1.out.cell 3
  have z0_4_1 : w1.cell? ⟨w.heap.size, 4, none⟩ = some (.int .i64 (m.sp)) := K0_1.out.cell 4
  have z0_5_1 : w1.cell? ⟨w.heap.size, 5, none⟩ = some (.slice m.A1 m.n1 m.c1) := K0_1.out.cell 5
  have z0_6_1 : w1.cell? ⟨w.heap.size, 6, none⟩ = some (.slice m.A2 m.n2 m.c2) := K0_1.out.cell 6
  have l1_1 : w.heap.size + 1 < w1.heap.size := K1_1.out.lt
  have z1_0_1 : w1.cell? ⟨w.heap.size + 1, 0, none⟩ = some (.int .i64 (day)) := K1_1.out.cell 0
  have z1_1_1 : w1.cell? ⟨w.heap.size + 1, 1, none⟩ = some (.int .i64 (pos)) := K1_1.out.cell 1
  have hsw1 := HB1.out.size
  have HS1 := Lib.hid (HS.out.lay HB1.out)
  go_loopw [13] (fun i wr => ∃ j : Nat, j ≤ n ∧ i = .int .i64 j ∧ Tch (fun g => g = bs) w1 wr ∧ SrAt bs (foldO (costO m day pos l) st (partsT n f o j)) wr) (fun i _ => n - (intOf i).toNat)
  case atStart => exact ⟨0, by omega, rfl, Tch.refl _ _, HS1.out⟩
  case round =>
    obtain ⟨j, hj, rfl, ht2, hs2⟩ := hrel
    obtain ⟨w2, hnm⟩ : ∃ z : World, z = wr := ⟨_, rfl⟩
    subst hnm
    have HT2 := Lib.hid ((Tch.of_below HB1.out).trans ht2)
    have HT12 := Lib.hid ht2
    have HS2 := Lib.hid hs2
    have hs12 := ht2.size
    clear ht2 hs2
    by_cases hlt : j < n
    rotate_left
    · obtain rfl : j = n := by omega
      go_wp2
      go_end0
      exact ⟨rfl, HT2.out, HS2.out⟩
    have hjj : (j : Int) < (n : Int) := by omega
    have HOW2 := Lib.hid (HT2.out.own HOW.out (fun q hq e => by have := (own_lt HOW.out hq).1; have e : q = bs := e; omega))
    have ej := IntWalk.i64_in ((j : Int) + 1) ⟨by omega, by omega⟩
    obtain ⟨tt, htt⟩ : ∃ tt, decide (j ∈ o) = tt := ⟨_, rfl⟩
    have HTT := Lib.hid htt
    clear htt
    go_wp2_with fail
    refine (has_is oA k oc _ (ordI o) (j : Int) tt (by rw [ordI_mem]; exact HTT.out) _ (own_reads2 HOW2.out) (by omega)).mono ?_
    rintro e w' ⟨rfl, rfl⟩
    cases tt
    rotate_left
    · go_wp2
      go_roundw
      case rel => exact ⟨j + 1, by omega, by go_num, HT12.out, by rw [parts_has (of_decide_eq_true HTT.out)]; exact HS2.out⟩
      case measure => simp [intOf]; omega
    have hk0 := HT12.out.blk K0_1.out (by show ¬ w.heap.size = bs; omega)
    have hk1 := HT12.out.blk K1_1.out (by show ¬ w.heap.size + 1 = bs; omega)
    have K0_2 := Lib.hid (show Blk w2 (w.heap.size) 24 #[.int .i64 (m.ls), .int .i64 (m.ms), .int .i64 (m.lo), .int .i64 (m.hi), .int .i64 (m.sp), .slice m.A1 m.n1 m.c1, .slice m.A2 m.n2 m.c2] from hk0)
    have K1_2 := Lib.hid (show Blk w2 (w.heap.size + 1) 26 #[.int .i64 (day), .int .i64 (pos)] from hk1)
    clear hk0 hk1
    have l0_2 : w.heap.size < w2.heap.size := K0_2.out.lt
    have z0_0_2 : w2.cell? ⟨w.heap.size, 0, none⟩ = some (.int .i64 (m.ls)) := K0_2.out.cell 0
    have z0_1_2 : w2.cell? ⟨w.heap.size, 1, none⟩ = some (.int .i64 (m.ms)) := K0_2.out.cell 1
    have z0_2_2 : w2.cell? ⟨w.heap.size, 2, none⟩ = some (.int .i64 (m.lo)) := K0_2.out.cell 2
    have z0_3_2 : w2.cell? ⟨w.heap.size, 3, none⟩ = some (.int .i64 (m.hi)) := K0_2.out.cell 3
    have z0_4_2 : w2.cell? ⟨w.heap.size, 4, none⟩ = some (.int .i64 (m.sp)) := K0_2.out.cell 4
    have z0_5_2 : w2.cell? ⟨w.heap.size, 5, none⟩ = some (.slice m.A1 m.n1 m.c1) := K0_2.out.cell 5
    have z0_6_2 : w2.cell? ⟨w.heap.size, 6, none⟩ = some (.slice m.A2 m.n2 m.c2) := K0_2.out.cell 6
    have l1_2 : w.heap.size + 1 < w2.heap.size := K1_2.out.lt
    have z1_0_2 : w2.cell? ⟨w.heap.size + 1, 0, none⟩ = some (.int .i64 (day)) := K1_2.out.cell 0
    have z1_1_2 : w2.cell? ⟨w.heap.size + 1, 1, none⟩ = some (.int .i64 (pos)) := K1_2.out.cell 1
    have HB02 := Lib.hid (HB0.out.trans (HT2.out.below (B := w0.heap.size) (fun q hq => by have hq : q = bs := hq; omega) (by omega)))
    go_wp2
    refine Fx.regionM (TaD (fun W w' => Tch (fun g => g = bs) W w' ∧ SrAt bs (foldO (costO m day pos l) (foldO (costO m day pos l) st (partsT n f o j)) (leavesT n f (o ++ [j]))) w') (j : Int) k ((ordI o).map (.int .i64))) (fun i (x : Pick) => if i = 7 then .slice x.1 1 1 else if i = 5 then .slice x.1 k x.2 else .slice x.1 (k + 1) x.2) (by kernel_rfl) ?_ ?_
    · intro f hf0
      exact TaD.start (hf0 9)
    first
    | (refine Fx.WM.skip 0 (by rfl) (by kernel_rfl) (by kernel_rfl) (by kernel_rfl) (by rfl) (fun g f w h => h.same (by decide)) ?_; simp only [Act.put, List.setIfInBounds_toArray, List.set_cons_zero, List.set_cons_succ])
    | (refine Fx.WM.val_ 0 ?_ (by rfl) (by kernel_rfl) (by kernel_rfl) (by kernel_rfl) (by rfl) ?_ (fun g f w h => h.same (by decide)) ?_
       rotate_left
       · intro g f w' hx hD hk
         obtain hta := id hD
         clear hx hk hD hta
         go_simp
         try rfl
       simp only [Act.put, List.setIfInBounds_toArray, List.set_cons_zero, List.set_cons_succ])
    first
    | (refine Fx.WM.skip 2 (by rfl) (by kernel_rfl) (by kernel_rfl) (by kernel_rfl) (by rfl) (fun g f w h => h.same (by decide)) ?_; simp only [Act.put, List.setIfInBounds_toArray, List.set_cons_zero, List.set_cons_succ])
    | (refine Fx.WM.val_ 2 ?_ (by rfl) (by kernel_rfl) (by kernel_rfl) (by kernel_rfl) (by rfl) ?_ (fun g f w h => h.same (by decide)) ?_
       rotate_left
       · intro g f w' hx hD hk
         obtain hta := id hD
         clear hx hk hD hta
         go_simp
         try rfl
       simp only [Act.put, List.setIfInBounds_toArray, List.set_cons_zero, List.set_cons_succ])
    first
    | (refine Fx.WM.skip 4 (by rfl) (by kernel_rfl) (by kernel_rfl) (by kernel_rfl) (by rfl) (fun g f w h => h.same (by decide)) ?_; simp only [Act.put, List.setIfInBounds_toArray, List.set_cons_zero, List.set_cons_succ])
    | (refine Fx.WM.val_ 4 ?_ (by rfl) (by kernel_rfl) (by kernel_rfl) (by kernel_rfl) (by rfl) ?_ (fun g f w h => h.same (by decide)) ?_
       rotate_left
       · intro g f w' hx hD hk
         obtain hta := id hD
         clear hx hk hD hta
         go_simp
         try rfl
       simp only [Act.put, List.setIfInBounds_toArray, List.set_cons_zero, List.set_cons_succ])
    first
    | (refine Fx.WM.skip 6 (by rfl) (by kernel_rfl) (by kernel_rfl) (by kernel_rfl) (by rfl) (fun g f w h => h.same (by decide)) ?_; simp only [Act.put, List.setIfInBounds_toArray, List.set_cons_zero, List.set_cons_succ])
    | (refine Fx.WM.val_ 6 ?_ (by rfl) (by kernel_rfl) (by kernel_rfl) (by kernel_rfl) (by rfl) ?_ (fun g f w h => h.same (by decide)) ?_
       rotate_left
       · intro g f w' hx hD hk
         obtain hta := id hD
         clear hx hk hD hta
         go_simp
         try rfl
       simp only [Act.put, List.setIfInBounds_toArray, List.set_cons_zero, List.set_cons_succ])
    first
    | (refine Fx.WM.skip 1 (by rfl) (by kernel_rfl) (by kernel_rfl) (by kernel_rfl) (by rfl) (fun g f w h => h.same (by decide)) ?_; simp only [Act.put, List.setIfInBounds_toArray, List.set_cons_zero, List.set_cons_succ])
    | (refine Fx.WM.val_ 1 ?_ (by rfl) (by kernel_rfl) (by kernel_rfl) (by kernel_rfl) (by rfl) ?_ (fun g f w h => h.same (by decide)) ?_
       rotate_left
       · intro g f w' hx hD hk
         obtain hta := id hD
         have hst : f 9 = false := hk.2.1 9 (by kernel_rfl)
         have yb := K0_2.out.below (hta.bel hst) l0_2
         have y0 := yb.cell 0
         have y1 := yb.cell 1
         have y2 := yb.cell 2
         have y3 := yb.cell 3
         have y4 := yb.cell 4
         have y5 := yb.cell 5
         have y6 := yb.cell 6
         clear hx hk hD hta hst yb
         go_simp
         try rfl
       simp only [Act.put, List.setIfInBounds_toArray, List.set_cons_zero, List.set_cons_succ])
    first
    | (refine Fx.WM.skip 3 (by rfl) (by kernel_rfl) (by kernel_rfl) (by kernel_rfl) (by rfl) (fun g f w h => h.same (by decide)) ?_; simp only [Act.put, List.setIfInBounds_toArray, List.set_cons_zero, List.set_cons_succ])
    | (refine Fx.WM.val_ 3 ?_ (by rfl) (by kernel_rfl) (by kernel_rfl) (by kernel_rfl) (by rfl) ?_ (fun g f w h => h.same (by decide)) ?_
       rotate_left
       · intro g f w' hx hD hk
         obtain hta := id hD
         have hst : f 9 = false := hk.2.1 9 (by kernel_rfl)
         have yb := K1_2.out.below (hta.bel hst) l1_2
         have y0 := yb.cell 0
         have y1 := yb.cell 1
         clear hx hk hD hta hst yb
         go_simp
         try rfl
       simp only [Act.put, List.setIfInBounds_toArray, List.set_cons_zero, List.set_cons_succ])
    refine Fx.WM.choose2 5 7 (by rfl) (by rfl) (by kernel_rfl) (by rfl) (by rfl) ?_ ?_ ?_ ?_
    · skip
      refine Fx.Chooses.call ?_ ?_ (by rfl) ?_ ?_
      rotate_left 2
      · intro w'
        go_simp
        refine ⟨?_, ?_⟩ <;> rfl
      · intro f w' hD hk
        have hst : f 9 = false := (hk.un 9 8 (by kernel_rfl) (hk.2.1 8 (by kernel_rfl)))
        exact (copyints_any oA k oc w'.heap.size (ordI o) w' (own_reads2 (own_below HOW2.out (hD.bel hst) (Nat.le_refl _))) (Nat.le_refl _) (by omega)).mono fun e w'' ⟨A', c', he, hb, hr, ho⟩ => ⟨(A', c'), he, hD.copy hst (by rfl) hb ho⟩
    · skip
      refine Fx.Chooses.make (by rfl) ?_
      intro f w' hD hk
      have hst : f 9 = false := (hk.un 9 8 (by kernel_rfl) (hk.2.1 8 (by kernel_rfl)))
      refine ⟨(some ⟨w'.heap.size, 0, none⟩, 0), w'.alloc (.cells #[.int .i64 (j : Int)] 3), ?_, ?_⟩
      · clear hk hD
        go_simp
        try rfl
      · exact hD.lit hst (by rfl)
    · intro x
      simp only [Act.put, List.setIfInBounds_toArray, List.set_cons_zero, List.set_cons_succ]
      refine Fx.WM.choose 7 (by rfl) (by kernel_rfl) (by rfl) ?_ ?_
      · skip
        refine Fx.Chooses.make (by rfl) ?_
        intro f w' hD hk
        have hst : f 9 = false := (hk.un 9 8 (by kernel_rfl) (hk.2.1 8 (by kernel_rfl)))
        refine ⟨(some ⟨w'.heap.size, 0, none⟩, 0), w'.alloc (.cells #[.int .i64 (j : Int)] 3), ?_, ?_⟩
        · clear hk hD
          go_simp
          try rfl
        · exact hD.lit hst (by rfl)
      intro y
      simp only [Act.put, List.setIfInBounds_toArray, List.set_cons_zero, List.set_cons_succ]
      refine Fx.WM.choose 8 (by rfl) (by kernel_rfl) (by rfl) ?_ ?_
      · skip
        refine Fx.Chooses.make (by rfl) ?_
        intro f w' hD hk
        have hst : f 9 = false := hk.2.1 9 (by kernel_rfl)
        obtain ⟨u', w2', hrun, hD2⟩ := TaD.app (x := x) (y := y) hD hst (by rfl) (by rfl) (by rfl) (by omega)
        exact ⟨u', w2', exec_append _ _ _ rfl hrun, hD2⟩
      intro u
      simp only [Act.put, List.setIfInBounds_toArray, List.set_cons_zero, List.set_cons_succ]
      refine Fx.WM.call 9 (.tuple #[]) ?_ ?_ (by rfl) (by kernel_rfl) (by kernel_rfl) (by kernel_rfl) (by rfl) ?_ ?_ ?_
      rotate_left 2
      · intro w'
        go_simp
        refine ⟨?_, ?_⟩ <;> rfl
      · intro g f w' hx hD hk
        have hst : f 9 = false := hk.1
        have hbw := hD.bel hst
        have hs' := HS2.out.lay hbw
        have ho8 : w'.ownsRow (bs + 1) 3 1 (.slice u.1 (k + 1) u.2) (k + 1) ((ordI (o ++ [j])).map (.int .i64)) := by rw [ordI_snoc]; exact own_mono (hD.ap hst _ (hx 8 _ (by rfl))) HS2.out.lt
        exact (HIH.out (o ++ [j]) _ u.1 (k + 1) u.2 w' (HOO.out.snoc hlt) (by rw [List.length_append, HOK.out]; rfl) (HB02.out.trans (hbw.mono HB02.out.size)) hs' ho8).mono fun e w'' ⟨he, ht, hs⟩ => ⟨he, TaD.end_ ⟨(Tch.of_below hbw).trans ht, hs⟩⟩
      simp only [Act.put, List.setIfInBounds_toArray, List.set_cons_zero, List.set_cons_succ]
      refine Fx.WM.nil (by kernel_rfl) ?_
      intro w3 hD
      obtain ⟨ht3, hs3⟩ := hD.en (by rfl)
      have HT3 := Lib.hid ht3
      have HS3 := Lib.hid hs3
      clear hD ht3 hs3
      go_wp2
      go_roundw
      case rel => exact ⟨j + 1, by omega, by go_num, HT12.out.trans HT3.out, by rw [parts_new (of_decide_eq_false HTT.out), fold_app]; exact HS3.out⟩
      case measure => simp [intOf]; omega
    · intro y
      simp only [Act.put, List.setIfInBounds_toArray, List.set_cons_zero, List.set_cons_succ]
      refine Fx.WM.choose 5 (by rfl) (by kernel_rfl) (by rfl) ?_ ?_
      · skip
        refine Fx.Chooses.call ?_ ?_ (by rfl) ?_ ?_
        rotate_left 2
        · intro w'
          go_simp
          refine ⟨?_, ?_⟩ <;> rfl
        · intro f w' hD hk
          have hst : f 9 = false := (hk.un 9 8 (by kernel_rfl) (hk.2.1 8 (by kernel_rfl)))
          exact (copyints_any oA k oc w'.heap.size (ordI o) w' (own_reads2 (own_below HOW2.out (hD.bel hst) (Nat.le_refl _))) (Nat.le_refl _) (by omega)).mono fun e w'' ⟨A', c', he, hb, hr, ho⟩ => ⟨(A', c'), he, hD.copy hst (by rfl) hb ho⟩
      intro x
      simp only [Act.put, List.setIfInBounds_toArray, List.set_cons_zero, List.set_cons_succ]
      refine Fx.WM.choose 8 (by rfl) (by kernel_rfl) (by rfl) ?_ ?_
      · skip
        refine Fx.Chooses.make (by rfl) ?_
        intro f w' hD hk
        have hst : f 9 = false := hk.2.1 9 (by kernel_rfl)
        obtain ⟨u', w2', hrun, hD2⟩ := TaD.app (x := x) (y := y) hD hst (by rfl) (by rfl) (by rfl) (by omega)
        exact ⟨u', w2', exec_append _ _ _ rfl hrun, hD2⟩
      intro u
      simp only [Act.put, List.setIfInBounds_toArray, List.set_cons_zero, List.set_cons_succ]
      refine Fx.WM.call 9 (.tuple #[]) ?_ ?_ (by rfl) (by kernel_rfl) (by kernel_rfl) (by kernel_rfl) (by rfl) ?_ ?_ ?_
      rotate_left 2
      · intro w'
        go_simp
        refine ⟨?_, ?_⟩ <;> rfl
      · intro g f w' hx hD hk
        have hst : f 9 = false := hk.1
        have hbw := hD.bel hst
        have hs' := HS2.out.lay hbw
        have ho8 : w'.ownsRow (bs + 1) 3 1 (.slice u.1 (k + 1) u.2) (k + 1) ((ordI (o ++ [j])).map (.int .i64)) := by rw [ordI_snoc]; exact own_mono (hD.ap hst _ (hx 8 _ (by rfl))) HS2.out.lt
        exact (HIH.out (o ++ [j]) _ u.1 (k + 1) u.2 w' (HOO.out.snoc hlt) (by rw [List.length_append, HOK.out]; rfl) (HB02.out.trans (hbw.mono HB02.out.size)) hs' ho8).mono fun e w'' ⟨he, ht, hs⟩ => ⟨he, TaD.end_ ⟨(Tch.of_below hbw).trans ht, hs⟩⟩
      simp only [Act.put, List.setIfInBounds_toArray, List.set_cons_zero, List.set_cons_succ]
      refine Fx.WM.nil (by kernel_rfl) ?_
      intro w3 hD
      obtain ⟨ht3, hs3⟩ := hD.en (by rfl)
      have HT3 := Lib.hid ht3
      have HS3 := Lib.hid hs3
      clear hD ht3 hs3
      go_wp2
      go_roundw
      case rel => exact ⟨j + 1, by omega, by go_num, HT12.out.trans HT3.out, by rw [parts_new (of_decide_eq_false HTT.out), fold_app]; exact HS3.out⟩
      case measure => simp [intOf]; omega

theorem rtry_is (m : Mnt) (day pos : Int) (l : List Tgt) (A : Option Addr) (n c : Nat) (hR : RightL m day pos l) (hln : l.length = n) (w0 : World) (hM0 : MntAt m w0) (hl0 : Reads w0 w0.heap.size 6 A n (tgtCells l)) (bs : Nat) (hbs : w0.heap.size ≤ bs) :
    ∀ (f : Nat) (o : List Nat) (st : BestO) (oA : Option Addr) (k oc : Nat) (w : World), OrdAt n f o → o.length = k → Below w0.heap.size w0 w → SrAt bs st w → w.ownsRow (bs + 1) 3 1 (.slice oA k oc) k ((ordI o).map (.int .i64)) →
      Calls Try.prog 29 #[.pointer (some ⟨bs, 0, none⟩), m.val, .slice A n c, .agg #[.int .i64 day, .int .i64 pos], .slice oA k oc] w (TryPost bs (foldO (costO m day pos l) st (leavesT n f o)) w)
  | 0, o, st, oA, k, oc, w, hO, hok, hb0, hs, ho => by
    obtain rfl : n = k := by have := hO.1; omega
    exact rtry_leaf m day pos l A n c hR hln w0 hM0 hl0 bs hbs o st oA oc hO w hb0 hs ho
  | f + 1, o, st, oA, k, oc, w, hO, hok, hb0, hs, ho => rtry_step m day pos l A n c (by have := hR.len; omega) w0 hM0 hl0 bs hbs f (rtry_is m day pos l A n c hR hln w0 hM0 hl0 bs hbs f) o st oA k oc hO hok w hb0 hs ho

/-- What the best order is, in memory. -/
def BestPost (n : Nat) (o : List Nat) (v : Int) (w : World) (e : Ending) (w' : World) : Prop := ∃ oA oc, e = .returned (.tuple #[.slice oA n oc, .int .i64 v]) ∧ Below w.heap.size w w' ∧ Reads w' w'.heap.size 1 oA n ((ordI o).map (.int .i64))
set_option maxRecDepth 100000 in
theorem rbesto_is (m : Mnt) (day pos : Int) (l : List Tgt) (A : Option Addr) (n c : Nat) (hR : RightL m day pos l) (hln : l.length = n) (o : List Nat) (v : Int) (hF : foldO (costO m day pos l) none (leavesT n n []) = some (o, v)) (hol : o.length = n) (w : World) (hx : MntAt m w) (hl : Reads w w.heap.size 6 A n (tgtCells l)) :
    Calls Try.prog 10 #[m.val, .slice A n c, .agg #[.int .i64 day, .int .i64 pos]] w (BestPost n o v w) := by
  have HR := Lib.hid hR
  have HLN := Lib.hid hln
  have HF := Lib.hid hF
  have HX := Lib.hid hx
  have HL := Lib.hid hl
  have HOL := Lib.hid hol
  clear hR hln hF hx hl hol
  unfold Mnt.val
  go_enter Try.func10, Try.ntmps10
  go_wp2_with fail
  generalize hwn : (((w.alloc (.cells #[.int .i64 (m.ls), .int .i64 (m.ms), .int .i64 (m.lo), .int .i64 (m.hi), .int .i64 (m.sp), .slice m.A1 m.n1 m.c1, .slice m.A2 m.n2 m.c2] 24)).alloc (.cells #[.int .i64 (day), .int .i64 (pos)] 26)).alloc (.cells #[.slice none 0 0, .int .i64 0, .bool false] 85)) = w1
  have hbn : Below w.heap.size w w1 := by rw [← hwn]; repeat' (first | exact Below.refl _ _ | refine below_drewN ?_ _ | refine Below.drew ?_ | refine Below.alloc ?_ (by first | omega | (simp; done) | (simp; omega) | (simp [World.setCell]; omega)) _ | refine Below.setCell ?_ (by first | omega | (simp; done) | (simp; omega)) _)
  have HB1 := Lib.hid (show Below w.heap.size w w1 from hbn)
  have K0_1 := Lib.hid (show Blk w1 (w.heap.size) 24 #[.int .i64 (m.ls), .int .i64 (m.ms), .int .i64 (m.lo), .int .i64 (m.hi), .int .i64 (m.sp), .slice m.A1 m.n1 m.c1, .slice m.A2 m.n2 m.c2] by rw [← hwn]; repeat' (first | exact Blk.at_ _ (by first | rfl | (simp; done) | (simp; omega)) _ _ | refine Blk.drewN ?_ _ | refine Blk.drew ?_ | refine Blk.alloc ?_ _ | refine Blk.far ?_ (by first | omega | (simp; done) | (simp; omega)) _ | assumption))
  have K1_1 := Lib.hid (show Blk w1 (w.heap.size + 1) 26 #[.int .i64 (day), .int .i64 (pos)] by rw [← hwn]; repeat' (first | exact Blk.at_ _ (by first | rfl | (simp; done) | (simp; omega)) _ _ | refine Blk.drewN ?_ _ | refine Blk.drew ?_ | refine Blk.alloc ?_ _ | refine Blk.far ?_ (by first | omega | (simp; done) | (simp; omega)) _ | assumption))
  have K2_1 := Lib.hid (show Blk w1 (w.heap.size + 2) 85 #[.slice none 0 0, .int .i64 0, .bool false] by rw [← hwn]; repeat' (first | exact Blk.at_ _ (by first | rfl | (simp; done) | (simp; omega)) _ _ | refine Blk.drewN ?_ _ | refine Blk.drew ?_ | refine Blk.alloc ?_ _ | refine Blk.far ?_ (by first | omega | (simp; done) | (simp; omega)) _ | assumption))
  have HN1 := Lib.hid hbn
  have hz1 := hbn.size
  clear hwn hbn
  have l0_1 : w.heap.size < w1.heap.size := K0_1.out.lt
  have z0_0_1 : w1.cell? ⟨w.heap.size, 0, none⟩ = some (.int .i64 (m.ls)) := K0_1.out.cell 0
  have z0_1_1 : w1.cell? ⟨w.heap.size, 1, none⟩ = some (.int .i64 (m.ms)) := K0_1.out.cell 1
  have z0_2_1 : w1.cell? ⟨w.heap.size, 2, none⟩ = some (.int .i64 (m.lo)) := K0_1.out.cell 2
  have z0_3_1 : w1.cell? ⟨w.heap.size, 3, none⟩ = some (.int .i64 (m.hi)) := K0_1.out.cell 3
  have z0_4_1 : w1.cell? ⟨w.heap.size, 4, none⟩ = some (.int .i64 (m.sp)) := K0_1.out.cell 4
  have z0_5_1 : w1.cell? ⟨w.heap.size, 5, none⟩ = some (.slice m.A1 m.n1 m.c1) := K0_1.out.cell 5
  have z0_6_1 : w1.cell? ⟨w.heap.size, 6, none⟩ = some (.slice m.A2 m.n2 m.c2) := K0_1.out.cell 6
  have l1_1 : w.heap.size + 1 < w1.heap.size := K1_1.out.lt
  have z1_0_1 : w1.cell? ⟨w.heap.size + 1, 0, none⟩ = some (.int .i64 (day)) := K1_1.out.cell 0
  have z1_1_1 : w1.cell? ⟨w.heap.size + 1, 1, none⟩ = some (.int .i64 (pos)) := K1_1.out.cell 1
  have l2_1 : w.heap.size + 2 < w1.heap.size := K2_1.out.lt
  have z2_0_1 : w1.cell? ⟨w.heap.size + 2, 0, none⟩ = some (.slice none 0 0) := K2_1.out.cell 0
  have z2_1_1 : w1.cell? ⟨w.heap.size + 2, 1, none⟩ = some (.int .i64 0) := K2_1.out.cell 1
  have z2_2_1 : w1.cell? ⟨w.heap.size + 2, 2, none⟩ = some (.bool false) := K2_1.out.cell 2
  have hsr : SrAt (w.heap.size + 2) none w1 := ⟨none, 0, 0, 0, false, K2_1.out, rfl, rfl, rfl, rfl, rfl⟩
  refine (rtry_is m day pos l A n c HR.out HLN.out w HX.out HL.out (w.heap.size + 2) (by omega) n [] none none 0 0 w1 ⟨by simp, by simp⟩ rfl HB1.out hsr (World.ownsRow_nil _ _ _ _)).mono ?_
  rintro e w2 ⟨rfl, ht, hs⟩
  rw [HF.out] at hs
  obtain ⟨oA, n', oc, x, t, hk, rfl, rfl, hn', ho⟩ := hs
  simp only at hn' ho
  rw [HOL.out] at hn'
  subst hn'
  have hbw := HB1.out.trans (ht.below (B := w.heap.size) (fun q hq => by have hq : q = w.heap.size + 2 := hq; omega) (by have := HB1.out.size; omega))
  have HO := Lib.hid (own_reads2 ho)
  clear ht ho hsr
  have HB2 := Lib.hid hbw
  have K0_2 := Lib.hid (show Blk w2 (w.heap.size + 2) 85 #[.slice oA n' oc, .int .i64 (x), .bool true] from hk)
  clear hbw hk
  have l0_2 : w.heap.size + 2 < w2.heap.size := K0_2.out.lt
  have z0_0_2 : w2.cell? ⟨w.heap.size + 2, 0, none⟩ = some (.slice oA n' oc) := K0_2.out.cell 0
  have z0_1_2 : w2.cell? ⟨w.heap.size + 2, 1, none⟩ = some (.int .i64 (x)) := K0_2.out.cell 1
  have z0_2_2 : w2.cell? ⟨w.heap.size + 2, 2, none⟩ = some (.bool true) := K0_2.out.cell 2
  go_wp2
  refine Fx.regionW (fun W f w' => Below W.heap.size W w') (by kernel_rfl) (by kernel_rfl) ?_ ?_
  · intro f hf0
    exact below_drewN (Below.refl _ _) 1
  repeat (first
    | (refine Fx.skip_ (by rfl) (fun f w h => h) ?_; simp only [Act.put, List.setIfInBounds_toArray, List.set_cons_zero, List.set_cons_succ])
    | (refine Fx.val_ ?_ (by rfl) ?_ (fun f w h => h) ?_
       rotate_left
       · intro f w' hD hk
         have hb := hD
         have kb0 := step_blk hb (show Blk _ (w.heap.size + 2) 85 #[.slice oA n' oc, .int .i64 (x), .bool true] by repeat' (first | exact K0_2.out | exact Blk.at_ _ (by first | rfl | (simp; done) | (simp; omega)) _ _ | refine Blk.drewN ?_ _ | refine Blk.drew ?_ | refine Blk.alloc ?_ _ | refine Blk.far ?_ (by first | omega | (simp; done) | (simp; omega)) _ | assumption))
         have y0_0 : w'.cell? ⟨w.heap.size + 2, 0, none⟩ = some (.slice oA n' oc) := kb0.cell 0
         have y0_1 : w'.cell? ⟨w.heap.size + 2, 1, none⟩ = some (.int .i64 (x)) := kb0.cell 1
         have y0_2 : w'.cell? ⟨w.heap.size + 2, 2, none⟩ = some (.bool true) := kb0.cell 2
         clear kb0
         clear hk hD hb
         go_simp
         try rfl
       simp only [Act.put, List.setIfInBounds_toArray, List.set_cons_zero, List.set_cons_succ]))
  refine Fx.nil_ ?_
  intro f w3 hall hb
  try clear hall
  have HB23 := Lib.hid hb
  have HB3 := Lib.hid (show Below w.heap.size w w3 from step_below hb (by repeat' (first | exact Below.refl _ _ | exact HB2.out | refine below_drewN ?_ _ | refine Below.drew ?_ | refine Below.alloc ?_ (by first | omega | (simp; done) | (simp; omega) | (simp [World.setCell]; omega)) _ | refine Below.setCell ?_ (by first | omega | (simp; done) | (simp; omega)) _ | assumption)))
  have K0_3 := Lib.hid (step_blk hb (show Blk _ (w.heap.size + 2) 85 #[.slice oA n' oc, .int .i64 (x), .bool true] by repeat' (first | exact K0_2.out | exact Blk.at_ _ (by first | rfl | (simp; done) | (simp; omega)) _ _ | refine Blk.drewN ?_ _ | refine Blk.drew ?_ | refine Blk.alloc ?_ _ | refine Blk.far ?_ (by first | omega | (simp; done) | (simp; omega)) _ | assumption)))
  have hz3 := hb.size
  try simp only [World.size_alloc, World.drewN, World.drew] at hz3
  clear hb K0_2 z0_0_2 z0_1_2 z0_2_2 l0_2
  have l0_3 : w.heap.size + 2 < w3.heap.size := K0_3.out.lt
  have z0_0_3 : w3.cell? ⟨w.heap.size + 2, 0, none⟩ = some (.slice oA n' oc) := K0_3.out.cell 0
  have z0_1_3 : w3.cell? ⟨w.heap.size + 2, 1, none⟩ = some (.int .i64 (x)) := K0_3.out.cell 1
  have z0_2_3 : w3.cell? ⟨w.heap.size + 2, 2, none⟩ = some (.bool true) := K0_3.out.cell 2
  go_wp2
  go_ret2
  exact ⟨oA, oc, rfl, HB3.out, (HO.out.below HB23.out).more HB23.out.size⟩
end Go.Proofs.Ytclnffpfbngjoaa

end

section
/- A range over a function whose iterator writes memory of its own between two rounds: what holds at each round is what the iterator and the body agree on. -/
namespace Go.Proofs.Ytclnffpfbngjoaa
open Go Go.RowKit

variable {n : Nat} {P : Program}
theorem yieldAt_any {a b : Nat} {l : Nat} {args : Array Value} {W : World} {R : Ending → World → Prop} (h : YieldAt Fence.wide a P l args W R) : YieldAt Fence.wide b P l args W R := by
  obtain ⟨fn, tmps, assign, body, h1, h2, h3⟩ := h
  exact ⟨fn, tmps, assign, body, h1, h2, fun c cs _ => h3 c cs (room_wide _)⟩
/-- What a round leaves as it is: all memory from block B on. -/
def KpB (B : Nat) (W W' : World) : Prop := W.heap.size ≤ W'.heap.size ∧ ∀ q, B ≤ q → q < W.heap.size → W'.heap[q]? = W.heap[q]?
theorem KpB.put {B l : Nat} {W W3 : World} {o o' : Obj} (hl : l < B) (h : KpB B (W.putObj l o) W3) : KpB B W (W3.putObj l o') := by
  have hs : (W.putObj l o).heap.size = W.heap.size := by simp
  refine ⟨by have := h.1; rw [hs] at this; simpa using this, fun q hq hqs => ?_⟩
  have h1 := h.2 q hq (by rw [hs]; exact hqs)
  rw [World.putObj_heap_other (by omega)] at h1
  rw [World.putObj_heap_other (by omega), h1]
/-- How a round that goes on is left. -/
def onlyOn (B : Nat) (I : World → Prop) (W : World) : Exit → Act → World → Prop
  | .normal, _, W' => KeepsFrom B W W' ∧ KpB (B + 2) W W' ∧ I W'
  | _, _, _ => False
/-- What the iterator owes, called with the loop's record at block l. -/
def IterOwes {α : Type} (n : Nat) (P : Program) (gf : Nat) (lb : Array Value) (encs : α → Array Value) (w : World) (I I' : List α → α → World → Prop) (E : List α → World → Prop) : Prop :=
  ∀ (L : Obj), L.isCells = false →
    (∀ pre x W, I pre x W → W.heap[w.heap.size + 1]? = some L → W.heap[w.heap.size]? = some (.deferred (some [])) → YieldAt Fence.wide n P (w.heap.size + 1) (encs x) W fun e W' =>
      e = .returned (.bool true) ∧ I' pre x W' ∧ KpB (w.heap.size + 2) W W' ∧ W'.heap[w.heap.size + 1]? = some L ∧ W'.heap[w.heap.size]? = some (.deferred (some []))) →
    Calls P gf (#[.func (.yield (w.heap.size + 1)) #[] #[]] ++ lb) ((w.alloc (.deferred (some []))).alloc L) fun e W' => (∃ v, e = .returned v) ∧ ∃ xs, E xs W' ∧ W'.heap[w.heap.size + 1]? = some L ∧ W'.heap[w.heap.size]? = some (.deferred (some []))
theorem wp_rangeOwn {α : Type} {g : Operand} {ps : Array Tmp} {assign body : Code} {Q : Exit → Act → World → Prop} {a : Act} {w : World}
    {gf : Nat} {lb : Array Value} (hg : a.eval g = .func (.func gf) #[] lb) (eg : ∀ args w, (callFunc gf args).run P w = .ok (.enter gf args) w)
    {encs : α → Array Value} (hps : ∀ x, (encs x).size = ps.size) (I I' : List α → α → World → Prop) (E : List α → World → Prop)
    (hiter : IterOwes n P gf lb encs w I I' E)
    (hI : ∀ pre x W o, I pre x W → w.heap.size + 1 < W.heap.size → I pre x (W.putObj (w.heap.size + 1) o)) (hI' : ∀ pre x W o, I' pre x W → w.heap.size + 1 < W.heap.size → I' pre x (W.putObj (w.heap.size + 1) o)) (a₁ : α → Act)
    (hassign : ∀ (l : Nat) (x : α) (W : World) (K : Act → World → Prop), K (a₁ x) W →
      assign.wpIn (Fence.wide.inRound l) n P (Exit.then K (fun _ _ _ => False)) { tmps := (ps.zip (encs x)).foldl (fun t (p, v) => t.setIfInBounds p v) a.tmps, defers := [] } W)
    (hbody : ∀ (l : Nat) (pre : List α) (x : α) (W : World), I pre x W → body.wpIn (Fence.wide.inRound l) n P (onlyOn w.heap.size (I' pre x) W) (a₁ x) W)
    (hdone : ∀ (xs : List α) (W : World) (o : Obj), E xs W → w.heap.size + 1 < W.heap.size → (W.putObj (w.heap.size + 1) o).heap[w.heap.size]? = some (.deferred (some [])) → Q .normal { a with defers := { target := .collected w.heap.size, args := #[] } :: a.defers } (W.putObj (w.heap.size + 1) o)) :
    (Code.rangeFunc g ps assign body).wpIn Fence.wide (n + 2) P Q a w := by
  refine wpIn_rangeFunc ?_
  intro fn hfn
  obtain ⟨rec, hrec⟩ : ∃ rec : LoopState → Option Code → Loop, rec = fun st pe => { state := st, pending := pe, fn, tmps := a.tmps, params := ps, assign, body, defers := w.heap.size } := ⟨_, rfl⟩
  obtain ⟨W1, hW1⟩ : ∃ W1, (w.alloc (.deferred (some []))).alloc (.loop (rec .ready none)) = W1 := ⟨_, rfl⟩
  refine ⟨w.heap.size + 1, [{ target := .collected w.heap.size, args := #[] }], W1, { target := .fn (.func gf) lb, args := #[.func (.yield (w.heap.size + 1)) #[] #[]] }, W1, gf,
    #[.func (.yield (w.heap.size + 1)) #[] #[]] ++ lb, W1, ?_, ?_, ?_, ?_, fun _ => by omega, ?_⟩
  · rw [← hW1, hrec]; exact run_enterLoop_outer _ _ _ _ _
  · simp only [resolve, hg]
    simp [go_sem]
  · intro f' hf'; trivial
  · simp [invoke, go_sem, eg]
  · rw [← hW1]
    refine callsIn_wide.2 ((hiter (.loop (rec .ready none)) rfl ?_).mono ?_)
    · intro pre x W hi hl hk
      have hlt : w.heap.size + 1 < W.heap.size := (Array.getElem?_eq_some_iff.1 hl).1
      have hy := run_yield (P := P) (args := encs x) hl (by rw [hrec]; exact hps x)
      rw [hrec] at hy
      refine ⟨fn, _, assign, body, hy, roundIn_of_wpIn hfn (hassign _ x W _ ⟨_, run_beginRound hl (by rw [hrec]), ?_⟩)⟩
      obtain ⟨Wb, hWb⟩ : ∃ Wb, W.putObj (w.heap.size + 1) (.loop { rec .ready none with state := .busy }) = Wb := ⟨_, rfl⟩
      have hl2 : Wb.heap[w.heap.size + 1]? = some (.loop { rec .ready none with state := .busy }) := by rw [← hWb]; exact World.putObj_heap_same hlt
      have hk2 : Wb.heap[w.heap.size]? = some (.deferred (some [])) := by rw [← hWb]; exact (World.putObj_heap_other (by omega)).trans hk
      have hb := hbody (w.heap.size + 1) pre x Wb (by rw [← hWb]; exact hI _ _ _ _ hi hlt)
      have hb' : body.wpIn (Fence.wide.inRound (w.heap.size + 1)) n P (onlyOn w.heap.size (I' pre x) Wb) (a₁ x) (W.putObj (w.heap.size + 1) (.loop { rec .ready none with state := .busy })) := by rw [hWb]; exact hb
      refine wpIn_mono hb' ?_
      rintro e a3 W3 hp
      cases e with
      | normal =>
        obtain ⟨hk3, hkp, hi3⟩ := hp
        rw [← hWb] at hkp
        have hl3 := hk3.same _ _ (by omega) hl2 rfl
        have hr := run_endRound (P := P) none hl3
        have hlt3 : w.heap.size + 1 < W3.heap.size := (Array.getElem?_eq_some_iff.1 hl3).1
        rw [hrec] at hr ⊢
        exact ⟨_, _, hr, rfl, hI' _ _ _ _ hi3 hlt3, hkp.put (by omega), World.putObj_heap_same hlt3, (World.putObj_heap_other (by omega)).trans (hk3.same _ _ (Nat.le_refl _) hk2 rfl)⟩
      | _ => exact hp.elim
    · rintro e W2 ⟨⟨v, rfl⟩, xs, hE, hl, hk⟩
      have hlt2 : w.heap.size + 1 < W2.heap.size := (Array.getElem?_eq_some_iff.1 hl).1
      exact ⟨none, _, by have := run_endLoop (P := P) hl (by rw [hrec]; simp); rw [hrec] at this; exact this, hdone xs _ _ hE hlt2 ((World.putObj_heap_other (by omega)).trans hk)⟩
end Go.Proofs.Ytclnffpfbngjoaa

end
