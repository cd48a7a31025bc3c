import Derived.Test.YtclnffpfbngjoaaQ29
import Derived.Test.YtclnffpfbngjoaaQ14

section
/- Contract of the reference's least cost of a choice, and what an append of a target makes. -/
namespace Go.Proofs.Ytclnffpfbngjoaa
open Go Go.RowKit

def tcellsV (t : Tgt) : List Value := [.string t.name, .int .i64 t.az, .int .i64 t.ht, .int .i64 t.fr, .int .i64 t.to, .int .i64 t.dw]
theorem tcells_snoc (l : List Tgt) (t : Tgt) : tgtCells (l ++ [t]) = tgtCells l ++ tcellsV t := by
  unfold tgtCells tcellsV
  rw [List.flatMap_append]
  rfl
/-- What 'out = append(out, target)' makes. -/
theorem snoctgt_run (B : Nat) (v : Value) (k : Nat) (xs : List Value) (t : Tgt) (w : World) (ho : w.ownsRow B 62 6 v k xs) (hB : B ≤ w.heap.size) (hk : k ≤ 100000) :
    ∃ v' W2, (Builtin.append_ #[25, 25] 25 #[v, .slice (some ⟨w.heap.size, 0, none⟩) 1 1]).run Try.prog (w.alloc (.cells #[.string t.name, .int .i64 t.az, .int .i64 t.ht, .int .i64 t.fr, .int .i64 t.to, .int .i64 t.dw] 62)) = .ok v' W2 ∧ W2.ownsRow B 62 6 v' (k + 1) (xs ++ tcellsV t) ∧ Below B w W2 := by
  obtain ⟨i0, hi0, hz0, hz1, hz2⟩ := info_parts info_tgt
  have hbW : Below B w (w.alloc (.cells #[.string t.name, .int .i64 t.az, .int .i64 t.ht, .int .i64 t.fr, .int .i64 t.to, .int .i64 t.dw] 62)) := (Below.refl _ _).alloc hB _
  obtain ⟨v', W2, hrun, o2', hg2, -⟩ := run_append_any (P := Try.prog) (w.alloc (.cells #[.string t.name, .int .i64 t.az, .int .i64 t.ht, .int .i64 t.fr, .int .i64 t.to, .int .i64 t.dw] 62)) B 25 25 62 i0 _ 6 56 Try.underlying25 hi0 hz0 hz1 hz2 rfl (by omega) v k _ (ho.alloc _) (w.alloc (.cells #[.string t.name, .int .i64 t.az, .int .i64 t.ht, .int .i64 t.fr, .int .i64 t.to, .int .i64 t.dw] 62)).heap.size (some ⟨w.heap.size, 0, none⟩) 1 1 (tcellsV t) (Blk.reads (Blk.new _ _ _) rfl) (by simp [tcellsV, Value.oneCell']) (by unfold maxLen; omega) (by omega) (Nat.le_trans hB hbW.size)
  exact ⟨v', W2, hrun, o2', hbW.grown hg2 (Nat.le_trans hB hbW.size) (fun g hg => (own_lt ho hg).1)⟩

set_option maxRecDepth 100000 in
theorem rlst_is (m : Mnt) (day pos : Int) (l : List Tgt) (A : Option Addr) (n c : Nat) (v : Int) (hv : leastC m day pos l = v) (hR : RightL m day pos l) (w : World) (hx : MntAt m w) (hl : Reads w w.heap.size 6 A n (tgtCells l)) :
    Calls Try.prog 57 #[m.val, .slice A n c, .agg #[.int .i64 day, .int .i64 pos]] w fun e w' => e = .returned (.int .i64 v) ∧ Below w.heap.size w w' := by
  have hll := hl.tlen
  have hn20 : n ≤ 20 := by have := hR.len; omega
  have HR := Lib.hid hR
  have HX := Lib.hid hx
  have HL := Lib.hid hl
  have HLL := Lib.hid hll
  have HV := Lib.hid hv
  clear hx hl hll hv hR
  by_cases hz : n = 0
  · obtain rfl : (0 : Int) = v := by
      have h1 := HLL.out
      rw [hz] at h1
      rw [← HV.out, List.length_eq_zero_iff.1 h1]
      rfl
    have e0 : ((n : Int) == 0) = true := by rw [hz]; rfl
    clear hz
    unfold Mnt.val
    go_enter Try.func57, Try.ntmps57
    go_wp2
    go_ret
    exact ⟨rfl, by repeat' (first | exact Below.refl _ _ | refine below_drewN ?_ _ | refine Below.drew ?_ | refine Below.alloc ?_ (by first | omega | (simp; done) | (simp; omega) | (simp [World.setCell]; omega)) _ | refine Below.setCell ?_ (by first | omega | (simp; done) | (simp; omega)) _)⟩
  have e0 : ((n : Int) == 0) = false := by rw [beq_eq_false_iff_ne]; omega
  obtain ⟨k, hk⟩ : ∃ k, n = k + 1 := ⟨n - 1, by omega⟩
  have hkn : k < n := by omega
  have v1 : IntKind.i64.wrap ((n : Int) - 1) = (k : Int) := by rw [IntWalk.i64_in _ ⟨by omega, by omega⟩]; omega
  have hkk : (k : Int) < (n : Int) := by omega
  have HK := Lib.hid hk
  clear hz hk
  unfold Mnt.val
  go_enter Try.func57, Try.ntmps57
  go_wp2_with fail
  generalize hwn : ((w.alloc (.cells #[.int .i64 (m.ls), .int .i64 (m.ms), .int .i64 (m.lo), .int .i64 (m.hi), .int .i64 (m.sp), .slice m.A1 m.n1 m.c1, .slice m.A2 m.n2 m.c2] 24)).alloc (.cells #[.int .i64 (day), .int .i64 (pos)] 26)) = w1
  have hbn : Below w.heap.size w w1 := by rw [← hwn]; repeat' (first | exact Below.refl _ _ | refine below_drewN ?_ _ | refine Below.drew ?_ | refine Below.alloc ?_ (by first | omega | (simp; done) | (simp; omega) | (simp [World.setCell]; omega)) _ | refine Below.setCell ?_ (by first | omega | (simp; done) | (simp; omega)) _)
  have HB1 := Lib.hid (show Below w.heap.size w w1 from hbn)
  have K0_1 := Lib.hid (show Blk w1 (w.heap.size) 24 #[.int .i64 (m.ls), .int .i64 (m.ms), .int .i64 (m.lo), .int .i64 (m.hi), .int .i64 (m.sp), .slice m.A1 m.n1 m.c1, .slice m.A2 m.n2 m.c2] by rw [← hwn]; repeat' (first | exact Blk.at_ _ (by first | rfl | (simp; done) | (simp; omega)) _ _ | refine Blk.drewN ?_ _ | refine Blk.drew ?_ | refine Blk.alloc ?_ _ | refine Blk.far ?_ (by first | omega | (simp; done) | (simp; omega)) _ | assumption))
  have K1_1 := Lib.hid (show Blk w1 (w.heap.size + 1) 26 #[.int .i64 (day), .int .i64 (pos)] by rw [← hwn]; repeat' (first | exact Blk.at_ _ (by first | rfl | (simp; done) | (simp; omega)) _ _ | refine Blk.drewN ?_ _ | refine Blk.drew ?_ | refine Blk.alloc ?_ _ | refine Blk.far ?_ (by first | omega | (simp; done) | (simp; omega)) _ | assumption))
  have HN1 := Lib.hid hbn
  have hz1 := hbn.size
  clear hwn hbn
  have l0_1 : w.heap.size < w1.heap.size := K0_1.out.lt
  have z0_0_1 : w1.cell? ⟨w.heap.size, 0, none⟩ = some (.int .i64 (m.ls)) := K0_1.out.cell 0
  have z0_1_1 : w1.cell? ⟨w.heap.size, 1, none⟩ = some (.int .i64 (m.ms)) := K0_1.out.cell 1
  have z0_2_1 : w1.cell? ⟨w.heap.size, 2, none⟩ = some (.int .i64 (m.lo)) := K0_1.out.cell 2
  have z0_3_1 : w1.cell? ⟨w.heap.size, 3, none⟩ = some (.int .i64 (m.hi)) := K0_1.out.cell 3
  have z0_4_1 : w1.cell? ⟨w.heap.size, 4, none⟩ = some (.int .i64 (m.sp)) := K0_1.out.cell 4
  have z0_5_1 : w1.cell? ⟨w.heap.size, 5, none⟩ = some (.slice m.A1 m.n1 m.c1) := K0_1.out.cell 5
  have z0_6_1 : w1.cell? ⟨w.heap.size, 6, none⟩ = some (.slice m.A2 m.n2 m.c2) := K0_1.out.cell 6
  have l1_1 : w.heap.size + 1 < w1.heap.size := K1_1.out.lt
  have z1_0_1 : w1.cell? ⟨w.heap.size + 1, 0, none⟩ = some (.int .i64 (day)) := K1_1.out.cell 0
  have z1_1_1 : w1.cell? ⟨w.heap.size + 1, 1, none⟩ = some (.int .i64 (pos)) := K1_1.out.cell 1
  have hm1 := HX.out.lay HB1.out
  have hl1 := (HL.out.below HB1.out).more HB1.out.size
  refine (rdist_is m day pos l A n c HR.out _ hm1 hl1).mono ?_
  rintro e w2 ⟨A', c', ts, rfl, hb, ho, hts⟩
  have HB2 := Lib.hid (show Below w.heap.size w w2 from step_below hb (by repeat' (first | exact Below.refl _ _ | exact HB1.out | refine below_drewN ?_ _ | refine Below.drew ?_ | refine Below.alloc ?_ (by first | omega | (simp; done) | (simp; omega) | (simp [World.setCell]; omega)) _ | refine Below.setCell ?_ (by first | omega | (simp; done) | (simp; omega)) _ | assumption)))
  have K0_2 := Lib.hid (step_blk hb (show Blk _ (w.heap.size) 24 #[.int .i64 (m.ls), .int .i64 (m.ms), .int .i64 (m.lo), .int .i64 (m.hi), .int .i64 (m.sp), .slice m.A1 m.n1 m.c1, .slice m.A2 m.n2 m.c2] by repeat' (first | exact K0_1.out | exact K1_1.out | exact Blk.at_ _ (by first | rfl | (simp; done) | (simp; omega)) _ _ | refine Blk.drewN ?_ _ | refine Blk.drew ?_ | refine Blk.alloc ?_ _ | refine Blk.far ?_ (by first | omega | (simp; done) | (simp; omega)) _ | assumption)))
  have K1_2 := Lib.hid (step_blk hb (show Blk _ (w.heap.size + 1) 26 #[.int .i64 (day), .int .i64 (pos)] by repeat' (first | exact K0_1.out | exact K1_1.out | exact Blk.at_ _ (by first | rfl | (simp; done) | (simp; omega)) _ _ | refine Blk.drewN ?_ _ | refine Blk.drew ?_ | refine Blk.alloc ?_ _ | refine Blk.far ?_ (by first | omega | (simp; done) | (simp; omega)) _ | assumption)))
  have hz2 := hb.size
  try simp only [World.size_alloc, World.drewN, World.drew] at hz2
  clear hb K0_1 K1_1 z0_0_1 z0_1_1 z0_2_1 z0_3_1 z0_4_1 z0_5_1 z0_6_1 l0_1 z1_0_1 z1_1_1 l1_1
  have l0_2 : w.heap.size < w2.heap.size := K0_2.out.lt
  have z0_0_2 : w2.cell? ⟨w.heap.size, 0, none⟩ = some (.int .i64 (m.ls)) := K0_2.out.cell 0
  have z0_1_2 : w2.cell? ⟨w.heap.size, 1, none⟩ = some (.int .i64 (m.ms)) := K0_2.out.cell 1
  have z0_2_2 : w2.cell? ⟨w.heap.size, 2, none⟩ = some (.int .i64 (m.lo)) := K0_2.out.cell 2
  have z0_3_2 : w2.cell? ⟨w.heap.size, 3, none⟩ = some (.int .i64 (m.hi)) := K0_2.out.cell 3
  have z0_4_2 : w2.cell? ⟨w.heap.size, 4, none⟩ = some (.int .i64 (m.sp)) := K0_2.out.cell 4
  have z0_5_2 : w2.cell? ⟨w.heap.size, 5, none⟩ = some (.slice m.A1 m.n1 m.c1) := K0_2.out.cell 5
  have z0_6_2 : w2.cell? ⟨w.heap.size, 6, none⟩ = some (.slice m.A2 m.n2 m.c2) := K0_2.out.cell 6
  have l1_2 : w.heap.size + 1 < w2.heap.size := K1_2.out.lt
  have z1_0_2 : w2.cell? ⟨w.heap.size + 1, 0, none⟩ = some (.int .i64 (day)) := K1_2.out.cell 0
  have z1_1_2 : w2.cell? ⟨w.heap.size + 1, 1, none⟩ = some (.int .i64 (pos)) := K1_2.out.cell 1
  obtain ⟨pb, po, r, rfl, hpb, hr, p0, hrc, hrl, hrr⟩ := ho.at_.at_ hkn
  have hrx : r.xs = dpB m day pos l n := by
    have h1 : (ts.map TRow.xs)[k]? = some r.xs := by rw [List.getElem?_map, hr]; rfl
    rw [hts, List.getElem?_map, List.getElem?_range (by omega)] at h1
    rw [HK.out]; exact (Option.some.inj h1).symm
  have hrn0 : 0 < r.n := by
    rw [← hrl, hrx, dpB_len n (by rw [HLL.out]; omega)]
    exact fro_some HR.out.ne n (by rw [HLL.out]; omega)
  have hC : minF r.xs = v := by rw [hrx, ← HV.out]; unfold leastC; rw [HLL.out]
  have HCC := Lib.hid hC
  have HRR := Lib.hid hrr
  have hrb : r.n ≤ 9223372036854775807 := by omega
  clear ho hts hr hrx hC hrl hrr hm1 hl1 hrc
  go_wp2_with fail
  refine (rleast_is r.A r.n r.c _ _ _ HCC.out hrn0 _ HRR.out hrb).mono ?_
  rintro e w' ⟨rfl, rfl⟩
  go_wp2
  go_ret
  exact ⟨rfl, HB2.out⟩
end Go.Proofs.Ytclnffpfbngjoaa

end

section
/- Contract of the reference's search of the best order. -/
namespace Go.Proofs.Ytclnffpfbngjoaa
open Go Go.RowKit

def ordI (o : List Nat) : List Int := o.map (fun (i : Nat) => (i : Int))
theorem ordI_at {o : List Nat} {i : Nat} {z : Int} (h : (ordI o)[i]? = some z) : ∃ j, o[i]? = some j ∧ z = (j : Int) := by
  unfold ordI at h
  rw [List.getElem?_map] at h
  cases h1 : o[i]? with
  | none => rw [h1] at h; cases h
  | some j => rw [h1] at h; exact ⟨j, rfl, (Option.some.inj h).symm⟩
theorem ordI_snoc (o : List Nat) (i : Nat) : (ordI (o ++ [i])).map (Value.int .i64) = (ordI o).map (Value.int .i64) ++ [.int .i64 (i : Int)] := by unfold ordI; simp
theorem ordI_mem (o : List Nat) (i : Nat) : decide ((i : Int) ∈ ordI o) = decide (i ∈ o) := by
  rw [decide_eq_decide]
  unfold ordI
  rw [List.mem_map]
  exact ⟨fun ⟨j, hj, e⟩ => (by obtain rfl : j = i := (by omega); exact hj), fun h => ⟨i, h, rfl⟩⟩

/-- The best order so far, in the search's block. -/
def SrAt (bs : Nat) (st : BestO) (w : World) : Prop :=
  ∃ A n c x t, Blk w bs 85 #[.slice A n c, .int .i64 x, .bool t] ∧
    match st with
    | none => t = false ∧ x = 0 ∧ A = none ∧ n = 0 ∧ c = 0
    | some b => t = true ∧ x = b.2 ∧ n = b.1.length ∧ w.ownsRow (bs + 1) 3 1 (.slice A n c) n ((ordI b.1).map (.int .i64))
theorem SrAt.lt {bs : Nat} {st : BestO} {w : World} (h : SrAt bs st w) : bs < w.heap.size := by obtain ⟨A, n, c, x, t, hk, -⟩ := h; exact hk.lt
theorem SrAt.lay {bs : Nat} {st : BestO} {w w' : World} (h : SrAt bs st w) (hb : Below w.heap.size w w') : SrAt bs st w' := by
  obtain ⟨A, n, c, x, t, hk, hs⟩ := h
  refine ⟨A, n, c, x, t, hk.below hb hk.lt, ?_⟩
  cases st with
  | none => exact hs
  | some b => exact ⟨hs.1, hs.2.1, hs.2.2.1, own_below hs.2.2.2 hb (Nat.le_refl _)⟩
theorem st_new {bs n yc : Nat} {yA : Option Addr} {o : List Nat} {v : Int} {w : World} {B : Nat} {u0 u1 u2 : Value} (hk : Blk w bs 85 #[u0, u1, u2]) (ho : w.ownsRow B 3 1 (.slice yA n yc) n ((ordI o).map (.int .i64))) (hB : bs < B) (hol : o.length = n) :
    SrAt bs (some (o, v)) (((w.setCell ⟨bs, 0, none⟩ (.slice yA n yc)).setCell ⟨bs, 1, none⟩ (.int .i64 v)).setCell ⟨bs, 2, none⟩ (.bool true)) := by
  have hne : (Value.slice yA n yc).ownBlock ≠ some bs := fun e => by have := (own_lt ho e).1; omega
  have h := ((hk.set_ 0 (.slice yA n yc)).set_ 1 (.int .i64 v)).set_ 2 (.bool true)
  refine ⟨yA, n, yc, v, true, by simpa using h, rfl, rfl, hol.symm, ?_⟩
  exact own_mono (own_set (own_set (own_set ho hne _) hne _) hne _) (by omega)
theorem st_tch {bs : Nat} {w w4 : World} (h : Tch (fun g => g = bs) w w4) (u0 u1 u2 : Value) : Tch (fun g => g = bs) w (((w4.setCell ⟨bs, 0, none⟩ u0).setCell ⟨bs, 1, none⟩ u1).setCell ⟨bs, 2, none⟩ u2) :=
  ((h.setCell (p := ⟨bs, 0, none⟩) (.inl rfl) u0).setCell (p := ⟨bs, 1, none⟩) (.inl rfl) u1).setCell (p := ⟨bs, 2, none⟩) (.inl rfl) u2
abbrev costO (m : Mnt) (day pos : Int) (l : List Tgt) (o : List Nat) : Int := leastC m day pos (permT l o)

set_option maxHeartbeats 2000000 in
set_option maxRecDepth 100000 in
theorem rtry_leaf (m : Mnt) (day pos : Int) (l : List Tgt) (A : Option Addr) (n c : Nat) (hR : RightL m day pos l) (hln : l.length = n) (w0 : World) (hM0 : MntAt m w0) (hl0 : Reads w0 w0.heap.size 6 A n (tgtCells l)) (bs : Nat) (hbs : w0.heap.size ≤ bs)
    (o : List Nat) (st : BestO) (oA : Option Addr) (oc : Nat) (hO : OrdAt n 0 o) (w : World) (hb0 : Below w0.heap.size w0 w) (hs : SrAt bs st w) (ho : w.ownsRow (bs + 1) 3 1 (.slice oA n oc) n ((ordI o).map (.int .i64))) :
    Calls Try.prog 29 #[.pointer (some ⟨bs, 0, none⟩), m.val, .slice A n c, .agg #[.int .i64 day, .int .i64 pos], .slice oA n oc] w fun e w' => e = .returned (.tuple #[]) ∧ Tch (fun g => g = bs) w w' ∧ SrAt bs (stepO (costO m day pos l) st o) w' := by
  have hn20 : n ≤ 20 := by have := hR.len; omega
  have hol : o.length = n := by have := hO.1; omega
  have hRp := hR.perm (by rw [hln]; exact hO : OrdAt l.length 0 o)
  have hpl : (permT l o).length = n := by rw [perm_len (by rw [hln]; exact hO.2), hol]
  obtain ⟨v, hv⟩ : ∃ v, costO m day pos l o = v := ⟨_, rfl⟩
  have hlw := (hl0.below hb0).more hb0.size
  have hmw := hM0.lay hb0
  have hlb := hs.lt
  have HOL := Lib.hid hol
  have HRP := Lib.hid hRp
  have HPL := Lib.hid hpl
  have HOO := Lib.hid hO
  have HV := Lib.hid hv
  have HL := Lib.hid hlw
  have HM := Lib.hid hmw
  have HS := Lib.hid hs
  have HOW := Lib.hid ho
  have HLN := Lib.hid hln
  have HSZ := hb0.size
  clear hR hol hRp hpl hv hlw hmw hs ho hln hb0 hM0 hl0 hO
  unfold Mnt.val
  go_enter Try.func29, Try.ntmps29
  go_wp2
  generalize hwn : ((w.alloc (.cells #[.int .i64 (m.ls), .int .i64 (m.ms), .int .i64 (m.lo), .int .i64 (m.hi), .int .i64 (m.sp), .slice m.A1 m.n1 m.c1, .slice m.A2 m.n2 m.c2] 24)).alloc (.cells #[.int .i64 (day), .int .i64 (pos)] 26)) = w1
  have hbn : Below w.heap.size w w1 := by rw [← hwn]; repeat' (first | exact Below.refl _ _ | refine below_drewN ?_ _ | refine Below.drew ?_ | refine Below.alloc ?_ (by first | omega | (simp; done) | (simp; omega) | (simp [World.setCell]; omega)) _ | refine Below.setCell ?_ (by first | omega | (simp; done) | (simp; omega)) _)
  have HB1 := Lib.hid (show Below w.heap.size w w1 from hbn)
  have K0_1 := Lib.hid (show Blk w1 (w.heap.size) 24 #[.int .i64 (m.ls), .int .i64 (m.ms), .int .i64 (m.lo), .int .i64 (m.hi), .int .i64 (m.sp), .slice m.A1 m.n1 m.c1, .slice m.A2 m.n2 m.c2] by rw [← hwn]; repeat' (first | exact Blk.at_ _ (by first | rfl | (simp; done) | (simp; omega)) _ _ | refine Blk.drewN ?_ _ | refine Blk.drew ?_ | refine Blk.alloc ?_ _ | refine Blk.far ?_ (by first | omega | (simp; done) | (simp; omega)) _ | assumption))
  have K1_1 := Lib.hid (show Blk w1 (w.heap.size + 1) 26 #[.int .i64 (day), .int .i64 (pos)] by rw [← hwn]; repeat' (first | exact Blk.at_ _ (by first | rfl | (simp; done) | (simp; omega)) _ _ | refine Blk.drewN ?_ _ | refine Blk.drew ?_ | refine Blk.alloc ?_ _ | refine Blk.far ?_ (by first | omega | (simp; done) | (simp; omega)) _ | assumption))
  have HN1 := Lib.hid hbn
  have hz1 := hbn.size
  clear hwn hbn
  have l0_1 : w.heap.size < w1.heap.size := K0_1.out.lt
  have z0_0_1 : w1.cell? ⟨w.heap.size, 0, none⟩ = some (.int .i64 (m.ls)) := K0_1.out.cell 0
  have z0_1_1 : w1.cell? ⟨w.heap.size, 1, none⟩ = some (.int .i64 (m.ms)) := K0_1.out.cell 1
  have z0_2_1 : w1.cell? ⟨w.heap.size, 2, none⟩ = some (.int .i64 (m.lo)) := K0_1.out.cell 2
  have z0_3_1 : w1.cell? ⟨w.heap.size, 3, none⟩ = some (.int .i64 (m.hi)) := K0_1.out.cell 3
  have z0_4_1 : w1.cell? ⟨w.heap.size, 4, none⟩ = some (.int .i64 (m.sp)) := K0_1.out.cell 4
  have z0_5_1 : w1.cell? ⟨w.heap.size, 5, none⟩ = some (.slice m.A1 m.n1 m.c1) := K0_1.out.cell 5
  have z0_6_1 : w1.cell? ⟨w.heap.size, 6, none⟩ = some (.slice m.A2 m.n2 m.c2) := K0_1.out.cell 6
  have l1_1 : w.heap.size + 1 < w1.heap.size := K1_1.out.lt
  have z1_0_1 : w1.cell? ⟨w.heap.size + 1, 0, none⟩ = some (.int .i64 (day)) := K1_1.out.cell 0
  have z1_1_1 : w1.cell? ⟨w.heap.size + 1, 1, none⟩ = some (.int .i64 (pos)) := K1_1.out.cell 1
  have hsw1 := HB1.out.size
  go_loopw [10, 11] (fun x i wr => ∃ k : Nat, k ≤ n ∧ i = .int .i64 k ∧ Below w1.heap.size w1 wr ∧ wr.ownsRow w1.heap.size 62 6 x k (tgtCells (permT l (o.take k)))) (fun _ i _ => n - (intOf i).toNat)
  case atStart => exact ⟨0, by omega, rfl, Below.refl _ _, World.ownsRow_nil _ _ _ _⟩
  case round =>
    obtain ⟨k, hk, rfl, hb2, hx⟩ := hrel
    obtain ⟨w2, hnm⟩ : ∃ z : World, z = wr := ⟨_, rfl⟩
    subst hnm
    have HB12 := Lib.hid hb2
    have HX2 := Lib.hid hx
    clear hb2 hx
    by_cases hlt : k < n
    · have hkk : (k : Int) < (n : Int) := by omega
      have hbw := HB1.out.trans (HB12.out.mono HB1.out.size)
      obtain ⟨ob, oo, z, rfl, hob, hz, o0⟩ := (own_reads2 (own_below HOW.out hbw (Nat.le_refl _))).int_ hlt
      obtain ⟨j, hj, rfl⟩ := ordI_at hz
      have hjn : j < n := HOO.out.2 j (List.mem_of_getElem? hj)
      have hjj : (j : Int) < (n : Int) := by omega
      have hj0 : (0 : Int) ≤ (j : Int) := by omega
      obtain ⟨xb, xo, t, hAx, hxb, ht, c0, c1, c2, c3, c4, c5⟩ := (HL.out.below hbw).tgt hjn
      subst hAx
      have hpt : permT l (o.take (k + 1)) = permT l (o.take k) ++ [t] := by
        rw [List.take_add_one, hj]
        exact perm_snoc ht
      obtain ⟨v', W2, hrun, ho2, hbX⟩ := snoctgt_run w1.heap.size _ k _ t w2 HX2.out HB12.out.size (by omega)
      rw [← tcells_snoc, ← hpt] at ho2
      have HRUN := Lib.hid hrun
      have HO2 := Lib.hid ho2
      have HBX := Lib.hid (HB12.out.trans hbX)
      have ek := IntWalk.i64_in ((k : Int) + 1) ⟨by omega, by omega⟩
      clear hrun ho2 hbX hpt hz hj ht hbw
      go_wp2_with (first | (at_builtin; refine wpList_app _ W2 v' rfl _ _ _ rfl _ _ rfl rfl HRUN.out ?_))
      go_roundw
      case rel => exact ⟨k + 1, by omega, by go_num, HBX.out, HO2.out⟩
      case measure => simp [intOf]; omega
    obtain rfl : n = k := by omega
    obtain ⟨xA, xc, rfl, hxr⟩ := own_reads HX2.out
    rw [show o.take n = o by rw [← HOL.out, List.take_length]] at hxr
    have hb1 := HB12.out
    have hk0 := Blk.below K0_1.out hb1 l0_1
    have hk1 := Blk.below K1_1.out hb1 l1_1
    have hbw := HB1.out.trans (hb1.mono HB1.out.size)
    have HSX := Lib.hid (HS.out.lay hbw)
    have HM2 := Lib.hid (HM.out.lay hbw)
    have HOW2 := Lib.hid (own_below HOW.out hbw (Nat.le_refl _))
    have HXR := Lib.hid hxr
    have hsz2 := hbw.size
    clear hb1 hxr
    have HB2 := Lib.hid hbw
    have K0_2 := Lib.hid (show Blk w2 (w.heap.size) 24 #[.int .i64 (m.ls), .int .i64 (m.ms), .int .i64 (m.lo), .int .i64 (m.hi), .int .i64 (m.sp), .slice m.A1 m.n1 m.c1, .slice m.A2 m.n2 m.c2] from hk0)
    have K1_2 := Lib.hid (show Blk w2 (w.heap.size + 1) 26 #[.int .i64 (day), .int .i64 (pos)] from hk1)
    clear hbw hk0 hk1
    have l0_2 : w.heap.size < w2.heap.size := K0_2.out.lt
    have z0_0_2 : w2.cell? ⟨w.heap.size, 0, none⟩ = some (.int .i64 (m.ls)) := K0_2.out.cell 0
    have z0_1_2 : w2.cell? ⟨w.heap.size, 1, none⟩ = some (.int .i64 (m.ms)) := K0_2.out.cell 1
    have z0_2_2 : w2.cell? ⟨w.heap.size, 2, none⟩ = some (.int .i64 (m.lo)) := K0_2.out.cell 2
    have z0_3_2 : w2.cell? ⟨w.heap.size, 3, none⟩ = some (.int .i64 (m.hi)) := K0_2.out.cell 3
    have z0_4_2 : w2.cell? ⟨w.heap.size, 4, none⟩ = some (.int .i64 (m.sp)) := K0_2.out.cell 4
    have z0_5_2 : w2.cell? ⟨w.heap.size, 5, none⟩ = some (.slice m.A1 m.n1 m.c1) := K0_2.out.cell 5
    have z0_6_2 : w2.cell? ⟨w.heap.size, 6, none⟩ = some (.slice m.A2 m.n2 m.c2) := K0_2.out.cell 6
    have l1_2 : w.heap.size + 1 < w2.heap.size := K1_2.out.lt
    have z1_0_2 : w2.cell? ⟨w.heap.size + 1, 0, none⟩ = some (.int .i64 (day)) := K1_2.out.cell 0
    have z1_1_2 : w2.cell? ⟨w.heap.size + 1, 1, none⟩ = some (.int .i64 (pos)) := K1_2.out.cell 1
    go_wp2_with fail
    refine (rlst_is m day pos (permT l o) xA n xc v HV.out HRP.out _ HM2.out HXR.out).mono ?_
    rintro e w3 ⟨rfl, hb⟩
    have HB3 := Lib.hid (show Below w.heap.size w w3 from step_below hb (by repeat' (first | exact Below.refl _ _ | exact HB2.out | refine below_drewN ?_ _ | refine Below.drew ?_ | refine Below.alloc ?_ (by first | omega | (simp; done) | (simp; omega) | (simp [World.setCell]; omega)) _ | refine Below.setCell ?_ (by first | omega | (simp; done) | (simp; omega)) _ | assumption)))
    have K0_3 := Lib.hid (step_blk hb (show Blk _ (w.heap.size) 24 #[.int .i64 (m.ls), .int .i64 (m.ms), .int .i64 (m.lo), .int .i64 (m.hi), .int .i64 (m.sp), .slice m.A1 m.n1 m.c1, .slice m.A2 m.n2 m.c2] by repeat' (first | exact K0_2.out | exact K1_2.out | exact Blk.at_ _ (by first | rfl | (simp; done) | (simp; omega)) _ _ | refine Blk.drewN ?_ _ | refine Blk.drew ?_ | refine Blk.alloc ?_ _ | refine Blk.far ?_ (by first | omega | (simp; done) | (simp; omega)) _ | assumption)))
    have K1_3 := Lib.hid (step_blk hb (show Blk _ (w.heap.size + 1) 26 #[.int .i64 (day), .int .i64 (pos)] by repeat' (first | exact K0_2.out | exact K1_2.out | exact Blk.at_ _ (by first | rfl | (simp; done) | (simp; omega)) _ _ | refine Blk.drewN ?_ _ | refine Blk.drew ?_ | refine Blk.alloc ?_ _ | refine Blk.far ?_ (by first | omega | (simp; done) | (simp; omega)) _ | assumption)))
    have hz3 := hb.size
    try simp only [World.size_alloc, World.drewN, World.drew] at hz3
    clear hb K0_2 K1_2 z0_0_2 z0_1_2 z0_2_2 z0_3_2 z0_4_2 z0_5_2 z0_6_2 l0_2 z1_0_2 z1_1_2 l1_2
    have l0_3 : w.heap.size < w3.heap.size := K0_3.out.lt
    have z0_0_3 : w3.cell? ⟨w.heap.size, 0, none⟩ = some (.int .i64 (m.ls)) := K0_3.out.cell 0
    have z0_1_3 : w3.cell? ⟨w.heap.size, 1, none⟩ = some (.int .i64 (m.ms)) := K0_3.out.cell 1
    have z0_2_3 : w3.cell? ⟨w.heap.size, 2, none⟩ = some (.int .i64 (m.lo)) := K0_3.out.cell 2
    have z0_3_3 : w3.cell? ⟨w.heap.size, 3, none⟩ = some (.int .i64 (m.hi)) := K0_3.out.cell 3
    have z0_4_3 : w3.cell? ⟨w.heap.size, 4, none⟩ = some (.int .i64 (m.sp)) := K0_3.out.cell 4
    have z0_5_3 : w3.cell? ⟨w.heap.size, 5, none⟩ = some (.slice m.A1 m.n1 m.c1) := K0_3.out.cell 5
    have z0_6_3 : w3.cell? ⟨w.heap.size, 6, none⟩ = some (.slice m.A2 m.n2 m.c2) := K0_3.out.cell 6
    have l1_3 : w.heap.size + 1 < w3.heap.size := K1_3.out.lt
    have z1_0_3 : w3.cell? ⟨w.heap.size + 1, 0, none⟩ = some (.int .i64 (day)) := K1_3.out.cell 0
    have z1_1_3 : w3.cell? ⟨w.heap.size + 1, 1, none⟩ = some (.int .i64 (pos)) := K1_3.out.cell 1
    obtain ⟨sA, sn, sc, x, tt, hsk, hst⟩ := HS.out
    have HSK := Lib.hid hsk
    have HB3' := HB3.out
    have hk3 := hsk.below HB3' hlb
    have s1 := hk3.cell 1
    have s2 := hk3.cell 2
    have HOW3 := Lib.hid (own_below HOW.out HB3' (Nat.le_refl _))
    clear hk3 hsk HB3'
    cases st with
    | none =>
      obtain ⟨rfl, rfl, rfl, rfl, rfl⟩ := hst
      clear s1
      have HNEW := Lib.hid (show stepO (costO m day pos l) none o = some (o, v) by
        show some (o, costO m day pos l o) = _
        rw [HV.out])
      go_wp2_with fail
      refine (copyints_any oA n oc w3.heap.size (ordI o) _ (own_reads2 HOW3.out) (Nat.le_refl _) (by omega)).mono ?_
      rintro e w4 ⟨yA, yc, rfl, hb, hr, hoy⟩
      have HB4 := Lib.hid (show Below w.heap.size w w4 from step_below hb (by repeat' (first | exact Below.refl _ _ | exact HB3.out | refine below_drewN ?_ _ | refine Below.drew ?_ | refine Below.alloc ?_ (by first | omega | (simp; done) | (simp; omega) | (simp [World.setCell]; omega)) _ | refine Below.setCell ?_ (by first | omega | (simp; done) | (simp; omega)) _ | assumption)))
      have K0_4 := Lib.hid (step_blk hb (show Blk _ (w.heap.size) 24 #[.int .i64 (m.ls), .int .i64 (m.ms), .int .i64 (m.lo), .int .i64 (m.hi), .int .i64 (m.sp), .slice m.A1 m.n1 m.c1, .slice m.A2 m.n2 m.c2] by repeat' (first | exact K0_3.out | exact K1_3.out | exact Blk.at_ _ (by first | rfl | (simp; done) | (simp; omega)) _ _ | refine Blk.drewN ?_ _ | refine Blk.drew ?_ | refine Blk.alloc ?_ _ | refine Blk.far ?_ (by first | omega | (simp; done) | (simp; omega)) _ | assumption)))
      have K1_4 := Lib.hid (step_blk hb (show Blk _ (w.heap.size + 1) 26 #[.int .i64 (day), .int .i64 (pos)] by repeat' (first | exact K0_3.out | exact K1_3.out | exact Blk.at_ _ (by first | rfl | (simp; done) | (simp; omega)) _ _ | refine Blk.drewN ?_ _ | refine Blk.drew ?_ | refine Blk.alloc ?_ _ | refine Blk.far ?_ (by first | omega | (simp; done) | (simp; omega)) _ | assumption)))
      have hz4 := hb.size
      try simp only [World.size_alloc, World.drewN, World.drew] at hz4
      clear hb K0_3 K1_3 z0_0_3 z0_1_3 z0_2_3 z0_3_3 z0_4_3 z0_5_3 z0_6_3 l0_3 z1_0_3 z1_1_3 l1_3
      have l0_4 : w.heap.size < w4.heap.size := K0_4.out.lt
      have z0_0_4 : w4.cell? ⟨w.heap.size, 0, none⟩ = some (.int .i64 (m.ls)) := K0_4.out.cell 0
      have z0_1_4 : w4.cell? ⟨w.heap.size, 1, none⟩ = some (.int .i64 (m.ms)) := K0_4.out.cell 1
      have z0_2_4 : w4.cell? ⟨w.heap.size, 2, none⟩ = some (.int .i64 (m.lo)) := K0_4.out.cell 2
      have z0_3_4 : w4.cell? ⟨w.heap.size, 3, none⟩ = some (.int .i64 (m.hi)) := K0_4.out.cell 3
      have z0_4_4 : w4.cell? ⟨w.heap.size, 4, none⟩ = some (.int .i64 (m.sp)) := K0_4.out.cell 4
      have z0_5_4 : w4.cell? ⟨w.heap.size, 5, none⟩ = some (.slice m.A1 m.n1 m.c1) := K0_4.out.cell 5
      have z0_6_4 : w4.cell? ⟨w.heap.size, 6, none⟩ = some (.slice m.A2 m.n2 m.c2) := K0_4.out.cell 6
      have l1_4 : w.heap.size + 1 < w4.heap.size := K1_4.out.lt
      have z1_0_4 : w4.cell? ⟨w.heap.size + 1, 0, none⟩ = some (.int .i64 (day)) := K1_4.out.cell 0
      have z1_1_4 : w4.cell? ⟨w.heap.size + 1, 1, none⟩ = some (.int .i64 (pos)) := K1_4.out.cell 1
      have HOY := Lib.hid hoy
      clear hoy hr
      have hk4 := HSK.out.below HB4.out hlb
      have HK4 := Lib.hid hk4
      have s0 := hk4.cell 0
      have s1 := hk4.cell 1
      have s2 := hk4.cell 2
      have q0 := hk4.frozen 0
      have q1 := hk4.frozen 1
      have q2 := hk4.frozen 2
      clear hk4
      go_wp2
      refine bodyPost_ret (results_none rfl _ _ _) rfl ?_
      have hlt4 : bs < w3.heap.size := by have := HB3.out.size; omega
      refine ⟨rfl, st_tch (Tch.of_below HB4.out) _ _ _, ?_⟩
      rw [HNEW.out]
      exact st_new HK4.out HOY.out hlt4 HOL.out
    | some b =>
      obtain ⟨b1, b2⟩ := b
      obtain ⟨rfl, rfl, rfl, hob⟩ := hst
      simp only at s1 s2 HSK
      obtain ⟨bb, hbb⟩ : ∃ bb, decide (v < x) = bb := ⟨_, rfl⟩
      have HOB := Lib.hid hob
      clear hob
      cases bb
      · have HN := Lib.hid (of_decide_eq_false hbb)
        go_wp2
        refine bodyPost_ret (results_none rfl _ _ _) rfl ?_
        refine ⟨rfl, Tch.of_below HB3.out, ?_⟩
        rw [show stepO (costO m day pos l) (some (b1, x)) o = some (b1, x) by
          show (if costO m day pos l o < x then some (o, costO m day pos l o) else some (b1, x)) = _
          rw [HV.out, if_neg (by have := HN.out; omega)]]
        exact ⟨sA, b1.length, sc, x, true, HSK.out.below HB3.out hlb, rfl, rfl, rfl, own_below HOB.out HB3.out (Nat.le_refl _)⟩
      have HNEW := Lib.hid (show stepO (costO m day pos l) (some (b1, x)) o = some (o, v) by
        show (if costO m day pos l o < x then some (o, costO m day pos l o) else some (b1, x)) = _
        rw [HV.out, if_pos (of_decide_eq_true hbb)])
      go_wp2_with fail
      refine (copyints_any oA n oc w3.heap.size (ordI o) _ (own_reads2 HOW3.out) (Nat.le_refl _) (by omega)).mono ?_
      rintro e w4 ⟨yA, yc, rfl, hb, hr, hoy⟩
      have HB4 := Lib.hid (show Below w.heap.size w w4 from step_below hb (by repeat' (first | exact Below.refl _ _ | exact HB3.out | refine below_drewN ?_ _ | refine Below.drew ?_ | refine Below.alloc ?_ (by first | omega | (simp; done) | (simp; omega) | (simp [World.setCell]; omega)) _ | refine Below.setCell ?_ (by first | omega | (simp; done) | (simp; omega)) _ | assumption)))
      have K0_4 := Lib.hid (step_blk hb (show Blk _ (w.heap.size) 24 #[.int .i64 (m.ls), .int .i64 (m.ms), .int .i64 (m.lo), .int .i64 (m.hi), .int .i64 (m.sp), .slice m.A1 m.n1 m.c1, .slice m.A2 m.n2 m.c2] by repeat' (first | exact K0_3.out | exact K1_3.out | exact Blk.at_ _ (by first | rfl | (simp; done) | (simp; omega)) _ _ | refine Blk.drewN ?_ _ | refine Blk.drew ?_ | refine Blk.alloc ?_ _ | refine Blk.far ?_ (by first | omega | (simp; done) | (simp; omega)) _ | assumption)))
      have K1_4 := Lib.hid (step_blk hb (show Blk _ (w.heap.size + 1) 26 #[.int .i64 (day), .int .i64 (pos)] by repeat' (first | exact K0_3.out | exact K1_3.out | exact Blk.at_ _ (by first | rfl | (simp; done) | (simp; omega)) _ _ | refine Blk.drewN ?_ _ | refine Blk.drew ?_ | refine Blk.alloc ?_ _ | refine Blk.far ?_ (by first | omega | (simp; done) | (simp; omega)) _ | assumption)))
      have hz4 := hb.size
      try simp only [World.size_alloc, World.drewN, World.drew] at hz4
      clear hb K0_3 K1_3 z0_0_3 z0_1_3 z0_2_3 z0_3_3 z0_4_3 z0_5_3 z0_6_3 l0_3 z1_0_3 z1_1_3 l1_3
      have l0_4 : w.heap.size < w4.heap.size := K0_4.out.lt
      have z0_0_4 : w4.cell? ⟨w.heap.size, 0, none⟩ = some (.int .i64 (m.ls)) := K0_4.out.cell 0
      have z0_1_4 : w4.cell? ⟨w.heap.size, 1, none⟩ = some (.int .i64 (m.ms)) := K0_4.out.cell 1
      have z0_2_4 : w4.cell? ⟨w.heap.size, 2, none⟩ = some (.int .i64 (m.lo)) := K0_4.out.cell 2
      have z0_3_4 : w4.cell? ⟨w.heap.size, 3, none⟩ = some (.int .i64 (m.hi)) := K0_4.out.cell 3
      have z0_4_4 : w4.cell? ⟨w.heap.size, 4, none⟩ = some (.int .i64 (m.sp)) := K0_4.out.cell 4
      have z0_5_4 : w4.cell? ⟨w.heap.size, 5, none⟩ = some (.slice m.A1 m.n1 m.c1) := K0_4.out.cell 5
      have z0_6_4 : w4.cell? ⟨w.heap.size, 6, none⟩ = some (.slice m.A2 m.n2 m.c2) := K0_4.out.cell 6
      have l1_4 : w.heap.size + 1 < w4.heap.size := K1_4.out.lt
      have z1_0_4 : w4.cell? ⟨w.heap.size + 1, 0, none⟩ = some (.int .i64 (day)) := K1_4.out.cell 0
      have z1_1_4 : w4.cell? ⟨w.heap.size + 1, 1, none⟩ = some (.int .i64 (pos)) := K1_4.out.cell 1
      have HOY := Lib.hid hoy
      clear hoy hr
      have hk4 := HSK.out.below HB4.out hlb
      have HK4 := Lib.hid hk4
      have s0 := hk4.cell 0
      have s1 := hk4.cell 1
      have s2 := hk4.cell 2
      have q0 := hk4.frozen 0
      have q1 := hk4.frozen 1
      have q2 := hk4.frozen 2
      clear hk4
      go_wp2
      refine bodyPost_ret (results_none rfl _ _ _) rfl ?_
      have hlt4 : bs < w3.heap.size := by have := HB3.out.size; omega
      refine ⟨rfl, st_tch (Tch.of_below HB4.out) _ _ _, ?_⟩
      rw [HNEW.out]
      exact st_new HK4.out HOY.out hlt4 HOL.out
end Go.Proofs.Ytclnffpfbngjoaa

end
