import Derived.Test.YtfigbdhfmlhjdaaQ17
import Derived.Test.YtfigbdhfmlhjdaaQ14

section
/- The reference's pivot of a thing, in one coordinate. -/
namespace Go.Proofs.Ytfigbdhfmlhjdaa
open Go Go.RowKit

theorem pv_ok {l : List Rk} (harms : ArmsOK l) {g : ByteArray → Int} (hg : ∀ s, -1000000 ≤ g s ∧ g s ≤ 1000000) {f : Nat} {s : ByteArray} {a : Int × Int} (h : pvF l g f s = some a) : FOk a := by
  rw [pvF_eq] at h
  split at h
  · cases h
  · obtain rfl := Option.some.inj h
    exact plD_ok harms hg f s
def pvE (o : Option (Int × Int)) : Ending := .returned (.tuple #[.agg #[.int .i64 (resV o).1, .int .i64 (resV o).2], .bool o.isSome])
/-- One step. -/
theorem pv_succ {l : List Rk} {g : ByteArray → Int} {f : Nat} {s : ByteArray} {i : Nat} {r : Rk} (hi : idxOf l s = some i) (hr : l[i]? = some r) : pvF l g (f + 1) s = match pvF l g f r.left, pvF l g f r.right with
    | some a, some b => pstF a b r.al r.ar
    | _, _ => none := by
  rw [pvF, hi]
  simp only [hr]
  cases pvF l g f r.left <;> cases pvF l g f r.right <;> rfl
theorem pv_leaf {l : List Rk} (g : ByteArray → Int) (f : Nat) {s : ByteArray} (h : idxOf l s = none) : pvF l g f s = some (g s, 1) := by
  cases f with
  | zero => rfl
  | succ f => rw [pvF, h]
theorem mem_first {ps : List ByteArray} {s : ByteArray} (hs : s ∈ ps) : ∃ k : Nat, ps[k]? = some s ∧ ∀ j : Nat, j < k → ∀ x, ps[j]? = some x → x ≠ s := by
  obtain ⟨i, hi⟩ := posOf_mem hs
  exact ⟨i, posOf_some hi⟩

set_option maxRecDepth 100000 in
set_option maxHeartbeats 2000000 in
theorem rpivot_leaf (l : List Rk) (A : Option Addr) (n c N : Nat) (P : Option Addr) (m cp : Nat) (B : Option Addr) (cb : Nat) (points : List ByteArray) (xs : List (Int × Int)) (ax : Nat) (hax : ax < 2) (hn : n ≤ 100000) (hm : m ≤ 1000000) (name : ByteArray) (k : Nat) (p : Int × Int) (z : Int) (hz : (if ax = 0 then p.1 else p.2) = z) (w : World)
    (hi : idxOf l name = none) (hk : points[k]? = some name) (hf : ∀ j, j < k → ∀ x, points[j]? = some x → x ≠ name) (hp : xs[k]? = some p) (hN : N ≤ w.heap.size) (hx : Reads w N 5 A n (rkCells l)) (hP : Reads w N 1 P m (strs points)) (hB : Reads w N 2 B m (cells2 xs)) :
    Calls Try.prog 34 #[.slice A n c, .string name, .slice P m cp, .slice B m cb, .int .i64 (ax : Int)] w fun e w' => e = .returned (.tuple #[.agg #[.int .i64 z, .int .i64 1], .bool true]) ∧ Below w.heap.size w w' := by
  have HF : Hid (findI l name = -1) := by show _ = _; unfold findI; rw [hi]
  have hkm : k < m := by rw [← hP.len1]; exact (List.getElem?_eq_some_iff.1 hk).1
  have hkk : (k : Int) < (m : Int) := by omega
  obtain ⟨xb, xo, p', hBe, hxb, hp', c0, c1⟩ := hB.pair hkm
  obtain rfl := Option.some.inj (hp'.symm.trans hp)
  subst hBe
  have hxw : xb < w.heap.size := Nat.lt_of_lt_of_le hxb hN
  have HK := Lib.hid hk
  have HFST := Lib.hid hf
  have HX := Lib.hid hx
  have HP := Lib.hid hP
  have C0 := Lib.hid c0
  have C1 := Lib.hid c1
  obtain ⟨pa, pb⟩ := p'
  clear hi hk hf hp hx hP hB hp' c0 c1
  rcases (show ax = 0 ∨ ax = 1 by omega) with rfl | rfl
  · obtain rfl : pa = z := hz
    go_enter Try.func34, Try.ntmps34
    go_wp2_with fail
    generalize hwn : (w.alloc (.cells #[.int .i64 (0), .int .i64 (0)] 35)) = w1
    have hbn : Below w.heap.size w w1 := by rw [← hwn]; repeat' (first | exact Below.refl _ _ | refine below_drewN ?_ _ | refine Below.drew ?_ | refine Below.alloc ?_ (by first | omega | (simp; done) | (simp; omega) | (simp [World.setCell]; omega)) _ | refine Below.setCell ?_ (by first | omega | (simp; done) | (simp; omega)) _)
    have HB1 := Lib.hid (show Below w.heap.size w w1 from hbn)
    have K0_1 := Lib.hid (show Blk w1 (w.heap.size) 35 #[.int .i64 (0), .int .i64 (0)] by rw [← hwn]; repeat' (first | exact Blk.at_ _ (by first | rfl | (simp; done) | (simp; omega)) _ _ | refine Blk.drewN ?_ _ | refine Blk.drew ?_ | refine Blk.alloc ?_ _ | refine Blk.far ?_ (by first | omega | (simp; done) | (simp; omega)) _ | assumption))
    have HN1 := Lib.hid hbn
    have hz1 := hbn.size
    clear hwn hbn
    have l0_1 : w.heap.size < w1.heap.size := K0_1.out.lt
    have z0_0_1 : w1.cell? ⟨w.heap.size, 0, none⟩ = some (.int .i64 (0)) := K0_1.out.cell 0
    have z0_1_1 : w1.cell? ⟨w.heap.size, 1, none⟩ = some (.int .i64 (0)) := K0_1.out.cell 1
    have d0 := (HB1.out.cell (p := ⟨xb, xo + k * 2, none⟩) hxw).trans C0.out
    go_wp2_with fail
    refine (find_is l _ n c N name (-1) HF.out _ (HX.out.below (HB1.out.mono hN)) (by omega)).mono ?_
    rintro e w' ⟨rfl, rfl⟩
    go_wp2_with fail
    refine (place_is points P m cp N name k HK.out HFST.out _ (HP.out.below (HB1.out.mono hN)) (by omega)).mono ?_
    rintro e w' ⟨rfl, rfl⟩
    have sc0 := (K0_1.out).cell 0
    have sf0 := (K0_1.out).frozen 0
    have sk0 : Blk (w1.setCell ⟨w.heap.size, 0, none⟩ (.int .i64 (pa))) (w.heap.size) 35 #[.int .i64 (pa), .int .i64 (0)] := by simpa using (K0_1.out).set_ 0 (.int .i64 (pa))
    have sc1 := (sk0).cell 1
    have sf1 := (sk0).frozen 1
    have sk1 : Blk ((w1.setCell ⟨w.heap.size, 0, none⟩ (.int .i64 (pa))).setCell ⟨w.heap.size, 1, none⟩ (.int .i64 (1))) (w.heap.size) 35 #[.int .i64 (pa), .int .i64 (1)] := by simpa using (sk0).set_ 1 (.int .i64 (1))
    have sK := Lib.hid sk1
    have sd0 := sk1.cell 0
    have sd1 := sk1.cell 1
    clear sk0 sk1
    go_wp2
    exact bodyPost_ret (v := .tuple #[.agg #[.int .i64 pa, .int .i64 1], .bool true]) (by simp [results, Try.results34, go_sem, sd0, sd1]) rfl ⟨rfl, by repeat' (first | exact Below.refl _ _ | exact HB1.out | refine below_drewN ?_ _ | refine Below.drew ?_ | refine Below.alloc ?_ (by first | omega | (simp; done) | (simp; omega) | (simp [World.setCell]; omega)) _ | refine Below.setCell ?_ (by first | omega | (simp; done) | (simp; omega)) _ | assumption)⟩
  · obtain rfl : pb = z := hz
    go_enter Try.func34, Try.ntmps34
    go_wp2_with fail
    generalize hwn : (w.alloc (.cells #[.int .i64 (0), .int .i64 (0)] 35)) = w1
    have hbn : Below w.heap.size w w1 := by rw [← hwn]; repeat' (first | exact Below.refl _ _ | refine below_drewN ?_ _ | refine Below.drew ?_ | refine Below.alloc ?_ (by first | omega | (simp; done) | (simp; omega) | (simp [World.setCell]; omega)) _ | refine Below.setCell ?_ (by first | omega | (simp; done) | (simp; omega)) _)
    have HB1 := Lib.hid (show Below w.heap.size w w1 from hbn)
    have K0_1 := Lib.hid (show Blk w1 (w.heap.size) 35 #[.int .i64 (0), .int .i64 (0)] by rw [← hwn]; repeat' (first | exact Blk.at_ _ (by first | rfl | (simp; done) | (simp; omega)) _ _ | refine Blk.drewN ?_ _ | refine Blk.drew ?_ | refine Blk.alloc ?_ _ | refine Blk.far ?_ (by first | omega | (simp; done) | (simp; omega)) _ | assumption))
    have HN1 := Lib.hid hbn
    have hz1 := hbn.size
    clear hwn hbn
    have l0_1 : w.heap.size < w1.heap.size := K0_1.out.lt
    have z0_0_1 : w1.cell? ⟨w.heap.size, 0, none⟩ = some (.int .i64 (0)) := K0_1.out.cell 0
    have z0_1_1 : w1.cell? ⟨w.heap.size, 1, none⟩ = some (.int .i64 (0)) := K0_1.out.cell 1
    have d0 := (HB1.out.cell (p := ⟨xb, xo + k * 2 + 1, none⟩) hxw).trans C1.out
    go_wp2_with fail
    refine (find_is l _ n c N name (-1) HF.out _ (HX.out.below (HB1.out.mono hN)) (by omega)).mono ?_
    rintro e w' ⟨rfl, rfl⟩
    go_wp2_with fail
    refine (place_is points P m cp N name k HK.out HFST.out _ (HP.out.below (HB1.out.mono hN)) (by omega)).mono ?_
    rintro e w' ⟨rfl, rfl⟩
    have sc0 := (K0_1.out).cell 0
    have sf0 := (K0_1.out).frozen 0
    have sk0 : Blk (w1.setCell ⟨w.heap.size, 0, none⟩ (.int .i64 (pb))) (w.heap.size) 35 #[.int .i64 (pb), .int .i64 (0)] := by simpa using (K0_1.out).set_ 0 (.int .i64 (pb))
    have sc1 := (sk0).cell 1
    have sf1 := (sk0).frozen 1
    have sk1 : Blk ((w1.setCell ⟨w.heap.size, 0, none⟩ (.int .i64 (pb))).setCell ⟨w.heap.size, 1, none⟩ (.int .i64 (1))) (w.heap.size) 35 #[.int .i64 (pb), .int .i64 (1)] := by simpa using (sk0).set_ 1 (.int .i64 (1))
    have sK := Lib.hid sk1
    have sd0 := sk1.cell 0
    have sd1 := sk1.cell 1
    clear sk0 sk1
    go_wp2
    exact bodyPost_ret (v := .tuple #[.agg #[.int .i64 pb, .int .i64 1], .bool true]) (by simp [results, Try.results34, go_sem, sd0, sd1]) rfl ⟨rfl, by repeat' (first | exact Below.refl _ _ | exact HB1.out | refine below_drewN ?_ _ | refine Below.drew ?_ | refine Below.alloc ?_ (by first | omega | (simp; done) | (simp; omega) | (simp [World.setCell]; omega)) _ | refine Below.setCell ?_ (by first | omega | (simp; done) | (simp; omega)) _ | assumption)⟩
end Go.Proofs.Ytfigbdhfmlhjdaa

end
