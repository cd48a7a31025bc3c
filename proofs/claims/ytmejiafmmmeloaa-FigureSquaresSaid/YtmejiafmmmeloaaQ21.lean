import Derived.Test.YtmejiafmmmeloaaQ20
import Derived.Test.YtmejiafmmmeloaaQ4
import Derived.BigQuiet
import Derived.Test.YtmejiafmmmeloaaQ18
import Derived.Test.YtmejiafmmmeloaaQ17
import Derived.Test.YtmejiafmmmeloaaQ6
import Derived.Test.YtmejiafmmmeloaaQ19

section
/- The reference's mean square, and the heights that are nearest to a level. -/
namespace Go.Proofs.Ytmejiafmmmeloaa
open Go Go.RowKit

def sumX (xs : List Int) : Int := sumL (fun x => x) xs
def sqX (xs : List Int) : Int := sumL (fun x => x * x) xs
def varX (xs : List Int) : Int := xs.length * sqX xs - sumX xs * sumX xs
theorem varX_map {α : Type} (f : α → Int) (l : List α) : varX (l.map f) = varL f l := by
  unfold varX sqX sumX varL
  rw [sumL_map, sumL_map, List.length_map]
theorem takeI (f : Int → Int) {xs : List Int} {k : Nat} {x : Int} (h : xs[k]? = some x) : sumL f (xs.take (k + 1)) = sumL f (xs.take k) + f x := by
  rw [List.take_add_one, h]
  exact sumL_snoc f x _
theorem varX_in {xs : List Int} (h : ∀ x ∈ xs, -1000000 ≤ x ∧ x ≤ 1000000) (hn : xs.length ≤ 10) {k : Nat} (hk : k ≤ xs.length) : (-10000000 ≤ sumX (xs.take k) ∧ sumX (xs.take k) ≤ 10000000) ∧ (0 ≤ sqX (xs.take k) ∧ sqX (xs.take k) ≤ 10000000000000) := by
  have hl : (xs.take k).length = k := by rw [List.length_take]; omega
  have h1 := sumL_in (f := fun x : Int => x) (l := xs.take k) fun x hx => h x (List.mem_of_mem_take hx)
  have h2 := sumL_in (f := fun x : Int => x * x) (l := xs.take k) (lo := 0) (hi := 1000000000000) fun x hx => by
    have h4 := sq_in (m := 1000000) (h x (List.mem_of_mem_take hx))
    exact ⟨h4.1, by omega⟩
  rw [hl] at h1 h2
  unfold sumX sqX
  omega
set_option maxRecDepth 100000 in
set_option maxHeartbeats 4000000 in
theorem square_is (A : Option Addr) (n c : Nat) (xs : List Int) (D : Int) (hxs : ∀ x ∈ xs, -1000000 ≤ x ∧ x ≤ 1000000) (hn : 1 ≤ n ∧ n ≤ 10) (hD : 1 ≤ D ∧ D ≤ 100) (s v : Int) (hs : redN (varX xs) ((n : Int) * n * D * D) = s) (hv : redD (varX xs) ((n : Int) * n * D * D) = v) (w : World) (hx : Reads w w.heap.size 1 A n (xs.map (.int .i64))) :
    Calls Try.prog 21 #[.slice A n c, .int .i64 D] w fun e w' => e = .returned (.agg #[.int .i64 s, .int .i64 v]) ∧ Below w.heap.size w w' := by
  have hln := hx.ilen
  have HX := Lib.hid hx
  have HXS := Lib.hid hxs
  have HLN := Lib.hid hln
  have HS := Lib.hid hs
  have HV := Lib.hid hv
  clear hx hxs hln hs hv
  go_enter Try.func21, Try.ntmps21
  go_wp2_with fail
  generalize hwn : (w.alloc (.cells #[.int .i64 (0), .int .i64 (0)] 25)) = w1
  have hbn : Below w.heap.size w w1 := by rw [← hwn]; repeat' (first | exact Below.refl _ _ | refine below_drewN ?_ _ | refine Below.drew ?_ | refine Below.alloc ?_ (by first | omega | (simp; done) | (simp; omega) | (simp [World.setCell]; omega)) _ | refine Below.setCell ?_ (by first | omega | (simp; done) | (simp; omega)) _)
  have HB1 := Lib.hid (show Below w.heap.size w w1 from hbn)
  have K0_1 := Lib.hid (show Blk w1 (w.heap.size) 25 #[.int .i64 (0), .int .i64 (0)] by rw [← hwn]; repeat' (first | exact Blk.at_ _ (by first | rfl | (simp; done) | (simp; omega)) _ _ | refine Blk.drewN ?_ _ | refine Blk.drew ?_ | refine Blk.alloc ?_ _ | refine Blk.far ?_ (by first | omega | (simp; done) | (simp; omega)) _ | assumption))
  have HN1 := Lib.hid hbn
  have hz1 := hbn.size
  clear hwn hbn
  have l0_1 : w.heap.size < w1.heap.size := K0_1.out.lt
  have z0_0_1 : w1.cell? ⟨w.heap.size, 0, none⟩ = some (.int .i64 (0)) := K0_1.out.cell 0
  have z0_1_1 : w1.cell? ⟨w.heap.size, 1, none⟩ = some (.int .i64 (0)) := K0_1.out.cell 1
  go_loopw [6, 7, 8] (fun a b x wr => ∃ i : Nat, i ≤ n ∧ x = .int .i64 i ∧ a = .int .i64 (sumX (xs.take i)) ∧ b = .int .i64 (sqX (xs.take i)) ∧ Below w1.heap.size w1 wr) (fun _ _ x _ => n - (intOf x).toNat)
  case atStart => exact ⟨0, by omega, rfl, rfl, rfl, Below.refl _ _⟩
  case round =>
    obtain ⟨i, hi, rfl, rfl, rfl, hb⟩ := hrel
    obtain ⟨w2, hnm⟩ : ∃ z : World, z = wr := ⟨_, rfl⟩
    subst hnm
    have HBJ := Lib.hid hb
    have hb2s := hb.size
    have hk2 := K0_1.out.below hb K0_1.out.lt
    have hbw := HB1.out.trans (hb.mono HB1.out.size)
    clear hb
    have hin := varX_in HXS.out (by rw [HLN.out]; exact hn.2) (k := i) (by rw [HLN.out]; omega)
    obtain ⟨S, hS⟩ : ∃ S, sumX (xs.take i) = S := ⟨_, rfl⟩
    obtain ⟨Q, hQ⟩ : ∃ Q, sqX (xs.take i) = Q := ⟨_, rfl⟩
    rw [hS, hQ] at hin
    rw [hS, hQ]
    have HSS := Lib.hid hS
    have HQQ := Lib.hid hQ
    clear hS hQ
    by_cases hlt : i < n
    rotate_left
    · obtain rfl : n = i := by omega
      have hs := HSS.out
      have hq := HQQ.out
      have htk : xs.take n = xs := List.take_of_length_le (by rw [HLN.out]; omega)
      rw [htk] at hs hq
      obtain ⟨y1, hy1⟩ : ∃ x, (n : Int) * Q = x := ⟨_, rfl⟩
      obtain ⟨y2, hy2⟩ : ∃ x, S * S = x := ⟨_, rfl⟩
      obtain ⟨y3, hy3⟩ : ∃ x, y1 - y2 = x := ⟨_, rfl⟩
      obtain ⟨z1, hz1⟩ : ∃ x, (n : Int) * n = x := ⟨_, rfl⟩
      obtain ⟨z2, hz2⟩ : ∃ x, z1 * D = x := ⟨_, rfl⟩
      obtain ⟨z3, hz3⟩ : ∃ x, z2 * D = x := ⟨_, rfl⟩
      have p1 := prod_small (x := (n : Int)) (y := Q) (X := 10) (Y := 10000000000000) (by omega) (by omega) (by omega) (by omega)
      have p2 := sq_in (m := 10000000) hin.1
      have p3 := prod_small (x := (n : Int)) (y := (n : Int)) (X := 10) (Y := 10) (by omega) (by omega) (by omega) (by omega)
      have q3 := Int.mul_pos (show (0 : Int) < n by omega) (show (0 : Int) < n by omega)
      rw [hy1] at p1
      rw [hy2] at p2
      rw [hz1] at p3 q3
      have p4 := prod_small (x := z1) (y := D) (X := 100) (Y := 100) (by omega) (by omega) (by omega) (by omega)
      have q4 := Int.mul_pos q3 (show 0 < D by omega)
      rw [hz2] at p4 q4
      have p5 := prod_small (x := z2) (y := D) (X := 10000) (Y := 100) (by omega) (by omega) (by omega) (by omega)
      have q5 := Int.mul_pos q4 (show 0 < D by omega)
      rw [hz3] at p5 q5
      have f1 : IntKind.i64.wrap ((n : Int) * Q) = y1 := by rw [hy1]; exact IntWalk.i64_in y1 ⟨by omega, by omega⟩
      have f2 : IntKind.i64.wrap (S * S) = y2 := by rw [hy2]; exact IntWalk.i64_in y2 ⟨by omega, by omega⟩
      have f3 : IntKind.i64.wrap (y1 - y2) = y3 := by rw [hy3]; exact IntWalk.i64_in y3 ⟨by omega, by omega⟩
      have f4 : IntKind.i64.wrap ((n : Int) * n) = z1 := by rw [hz1]; exact IntWalk.i64_in z1 ⟨by omega, by omega⟩
      have f5 : IntKind.i64.wrap (z1 * D) = z2 := by rw [hz2]; exact IntWalk.i64_in z2 ⟨by omega, by omega⟩
      have f6 : IntKind.i64.wrap (z2 * D) = z3 := by rw [hz3]; exact IntWalk.i64_in z3 ⟨by omega, by omega⟩
      have hvr : varX xs = y3 := by unfold varX; rw [HLN.out, hs, hq, hy1, hy2, hy3]
      have HN := Lib.hid (show redN y3 z3 = s by have h := HS.out; rw [hvr, hz1, hz2, hz3] at h; exact h)
      have HD := Lib.hid (show redD y3 z3 = v by have h := HV.out; rw [hvr, hz1, hz2, hz3] at h; exact h)
      clear hs hq htk hy1 hy2 hz1 hz2 hz3 hvr
      have HB2 := Lib.hid hbw
      have K0_2 := Lib.hid (show Blk w2 (w.heap.size) 25 #[.int .i64 (0), .int .i64 (0)] from hk2)
      clear hbw hk2
      have l0_2 : w.heap.size < w2.heap.size := K0_2.out.lt
      have z0_0_2 : w2.cell? ⟨w.heap.size, 0, none⟩ = some (.int .i64 (0)) := K0_2.out.cell 0
      have z0_1_2 : w2.cell? ⟨w.heap.size, 1, none⟩ = some (.int .i64 (0)) := K0_2.out.cell 1
      go_wp2_with fail
      refine (lowest_red y3 z3 s v HN.out HD.out _ (by omega) (by omega) (by omega) (by omega)).mono ?_
      rintro e w3 ⟨rfl, hb⟩
      have HB3 := Lib.hid (show Below w.heap.size w w3 from step_below hb (by repeat' (first | exact Below.refl _ _ | exact HB2.out | refine below_drewN ?_ _ | refine Below.drew ?_ | refine Below.alloc ?_ (by first | omega | (simp; done) | (simp; omega) | (simp [World.setCell]; omega)) _ | refine Below.setCell ?_ (by first | omega | (simp; done) | (simp; omega)) _ | assumption)))
      have K0_3 := Lib.hid (step_blk hb (show Blk _ (w.heap.size) 25 #[.int .i64 (0), .int .i64 (0)] by repeat' (first | exact K0_2.out | exact Blk.at_ _ (by first | rfl | (simp; done) | (simp; omega)) _ _ | refine Blk.drewN ?_ _ | refine Blk.drew ?_ | refine Blk.alloc ?_ _ | refine Blk.far ?_ (by first | omega | (simp; done) | (simp; omega)) _ | assumption)))
      have hz3 := hb.size
      try simp only [World.size_alloc, World.drewN, World.drew] at hz3
      clear hb K0_2 z0_0_2 z0_1_2 l0_2
      have l0_3 : w.heap.size < w3.heap.size := K0_3.out.lt
      have z0_0_3 : w3.cell? ⟨w.heap.size, 0, none⟩ = some (.int .i64 (0)) := K0_3.out.cell 0
      have z0_1_3 : w3.cell? ⟨w.heap.size, 1, none⟩ = some (.int .i64 (0)) := K0_3.out.cell 1
      have zf0_0 := K0_3.out.frozen 0
      have zf0_1 := K0_3.out.frozen 1
      go_wp2
      exact bodyPost_ret (v := .agg #[.int .i64 s, .int .i64 v]) (by simp [results, Try.results21, go_sem, z0_0_3, z0_1_3, l0_3]) rfl ⟨rfl, by repeat' (first | exact Below.refl _ _ | exact HB3.out | refine below_drewN ?_ _ | refine Below.drew ?_ | refine Below.alloc ?_ (by first | omega | (simp; done) | (simp; omega) | (simp [World.setCell]; omega)) _ | refine Below.setCell ?_ (by first | omega | (simp; done) | (simp; omega)) _ | assumption)⟩
    have hii : (i : Int) < (n : Int) := by omega
    have ei := IntWalk.i64_in ((i : Int) + 1) ⟨by omega, by omega⟩
    obtain ⟨xb, xo, x, hAe, hxb, hxi, c0⟩ := ((HX.out.below HB1.out).below (HBJ.out.mono HB1.out.size)).int_ hlt
    subst hAe
    have hxb2 : xb < w2.heap.size := by have := HB1.out.size; omega
    have hxx := HXS.out x (List.mem_of_getElem? hxi)
    have p1 := sq_in (m := 1000000) hxx
    have T1 := Lib.hid (show sumX (xs.take (i + 1)) = S + x by have h := takeI (fun x => x) hxi; unfold sumX at *; rw [h]; have := HSS.out; unfold sumX at this; rw [this])
    have T2 := Lib.hid (show sqX (xs.take (i + 1)) = Q + x * x by have h := takeI (fun x => x * x) hxi; unfold sqX at *; rw [h]; have := HQQ.out; unfold sqX at this; rw [this])
    have f1 := IntWalk.i64_in (x * x) ⟨by omega, by omega⟩
    have f2 := IntWalk.i64_in (S + x) ⟨by omega, by omega⟩
    have f3 := IntWalk.i64_in (Q + x * x) ⟨by omega, by omega⟩
    clear hxi
    have HB2 := Lib.hid hbw
    have K0_2 := Lib.hid (show Blk w2 (w.heap.size) 25 #[.int .i64 (0), .int .i64 (0)] from hk2)
    clear hbw hk2
    have l0_2 : w.heap.size < w2.heap.size := K0_2.out.lt
    have z0_0_2 : w2.cell? ⟨w.heap.size, 0, none⟩ = some (.int .i64 (0)) := K0_2.out.cell 0
    have z0_1_2 : w2.cell? ⟨w.heap.size, 1, none⟩ = some (.int .i64 (0)) := K0_2.out.cell 1
    go_wp2_with fail
    refine Fx.regionW (fun W f w' => Below W.heap.size W w') (by kernel_rfl) (by kernel_rfl) ?_ ?_
    · intro f hf0
      exact below_drewN (Below.refl _ _) 1
    repeat (first
      | (refine Fx.skip_ (by rfl) (fun f w h => h) ?_; simp only [Act.put, List.setIfInBounds_toArray, List.set_cons_zero, List.set_cons_succ])
      | (refine Fx.val_ ?_ (by rfl) ?_ (fun f w h => h) ?_
         rotate_left
         · intro f w' hD hk
           have hb := hD
           have kb0 := step_blk hb (show Blk _ (w.heap.size) 25 #[.int .i64 (0), .int .i64 (0)] by repeat' (first | exact K0_2.out | exact Blk.at_ _ (by first | rfl | (simp; done) | (simp; omega)) _ _ | refine Blk.drewN ?_ _ | refine Blk.drew ?_ | refine Blk.alloc ?_ _ | refine Blk.far ?_ (by first | omega | (simp; done) | (simp; omega)) _ | assumption))
           have y0_0 : w'.cell? ⟨w.heap.size, 0, none⟩ = some (.int .i64 (0)) := kb0.cell 0
           have y0_1 : w'.cell? ⟨w.heap.size, 1, none⟩ = some (.int .i64 (0)) := kb0.cell 1
           have q0 := (hb.cell (p := ⟨xb, xo + i, none⟩) hxb2).trans c0
           clear kb0
           clear hk hD hb
           go_simp
           try rfl
         simp only [Act.put, List.setIfInBounds_toArray, List.set_cons_zero, List.set_cons_succ]))
    refine Fx.nil_ ?_
    intro f w3 hall hb
    try clear hall
    have HB23 := Lib.hid hb
    have HB3 := Lib.hid (show Below w.heap.size w w3 from step_below hb (by repeat' (first | exact Below.refl _ _ | exact HB2.out | refine below_drewN ?_ _ | refine Below.drew ?_ | refine Below.alloc ?_ (by first | omega | (simp; done) | (simp; omega) | (simp [World.setCell]; omega)) _ | refine Below.setCell ?_ (by first | omega | (simp; done) | (simp; omega)) _ | assumption)))
    have K0_3 := Lib.hid (step_blk hb (show Blk _ (w.heap.size) 25 #[.int .i64 (0), .int .i64 (0)] by repeat' (first | exact K0_2.out | exact Blk.at_ _ (by first | rfl | (simp; done) | (simp; omega)) _ _ | refine Blk.drewN ?_ _ | refine Blk.drew ?_ | refine Blk.alloc ?_ _ | refine Blk.far ?_ (by first | omega | (simp; done) | (simp; omega)) _ | assumption)))
    have hz3 := hb.size
    try simp only [World.size_alloc, World.drewN, World.drew] at hz3
    clear hb K0_2 z0_0_2 z0_1_2 l0_2
    have l0_3 : w.heap.size < w3.heap.size := K0_3.out.lt
    have z0_0_3 : w3.cell? ⟨w.heap.size, 0, none⟩ = some (.int .i64 (0)) := K0_3.out.cell 0
    have z0_1_3 : w3.cell? ⟨w.heap.size, 1, none⟩ = some (.int .i64 (0)) := K0_3.out.cell 1
    have HBN := Lib.hid (HBJ.out.trans (HB23.out.mono HBJ.out.size))
    go_wp2
    go_roundw
    case rel => exact ⟨i + 1, by omega, by go_num, by rw [T1.out], by rw [T2.out], HBN.out⟩
    case measure => simp [intOf]; omega
theorem info_int8 : (Try.prog.info? 3).map (fun i => (i.zero, i.size, i.bytes)) = some (some (.int .i64 0), 1, 8) := by kernel_rfl
theorem snoc1i_run (B : Nat) (v : Value) (k : Nat) (xs : List Value) (z : Int) (w : World) (ho : w.ownsRow B 3 1 v k xs) (hB : B ≤ w.heap.size) (hk : k ≤ 10000000) :
    ∃ v' W2, (Builtin.append_ #[36, 36] 36 #[v, .slice (some ⟨w.heap.size, 0, none⟩) 1 1]).run Try.prog (w.alloc (.cells #[.int .i64 z] 3)) = .ok v' W2 ∧ W2.ownsRow B 3 1 v' (k + 1) (xs ++ [.int .i64 z]) ∧ Below B w W2 := by
  obtain ⟨i0, hi0, hz0, hz1, hz2⟩ := info_parts info_int8
  have hbW : Below B w (w.alloc (.cells #[.int .i64 z] 3)) := (Below.refl _ _).alloc hB _
  obtain ⟨v', W2, hrun, o2', hg2, -⟩ := run_append_any (P := Try.prog) (w.alloc (.cells #[.int .i64 z] 3)) B 36 36 3 i0 _ 1 8 Try.underlying36 hi0 hz0 hz1 hz2 rfl (by omega) v k _ (ho.alloc _) (w.alloc (.cells #[.int .i64 z] 3)).heap.size (some ⟨w.heap.size, 0, none⟩) 1 1 [.int .i64 z] (Blk.reads (Blk.new _ _ _) rfl) (by simp [Value.oneCell']) (by unfold maxLen; omega) (by first | omega | (simp; omega)) (by first | omega | (simp; omega))
  exact ⟨v', W2, hrun, o2', hbW.grown hg2 (Nat.le_trans hB hbW.size) (fun g hg => (own_lt ho hg).1)⟩
set_option maxRecDepth 100000 in
set_option maxHeartbeats 4000000 in
theorem nearest_is (A : Option Addr) (n c : Nat) (l : List Rg) (N D : Int) (hl : RgIn l) (hn : n ≤ 10) (hN : -10000000 ≤ N ∧ N ≤ 10000000) (hD : 1 ≤ D ∧ D ≤ 10) (w : World) (hx : Reads w w.heap.size 2 A n (cells2 l)) :
    Calls Try.prog 22 #[.slice A n c, .agg #[.int .i64 N, .int .i64 D]] w fun e w' => ∃ A' c', e = .returned (.slice A' n c') ∧ Below w.heap.size w w' ∧ Reads w' w'.heap.size 1 A' n ((l.map (clampF N D)).map (.int .i64)) := by
  have hln : l.length = n := by have := hx.1; rw [cells2_length] at this; omega
  have HX := Lib.hid hx
  have HL := Lib.hid hl
  have HLN := Lib.hid hln
  clear hx hl hln
  go_enter Try.func22, Try.ntmps22
  go_wp2_with fail
  generalize hwn : (w.alloc (.cells #[.int .i64 (N), .int .i64 (D)] 25)) = w1
  have hbn : Below w.heap.size w w1 := by rw [← hwn]; repeat' (first | exact Below.refl _ _ | refine below_drewN ?_ _ | refine Below.drew ?_ | refine Below.alloc ?_ (by first | omega | (simp; done) | (simp; omega) | (simp [World.setCell]; omega)) _ | refine Below.setCell ?_ (by first | omega | (simp; done) | (simp; omega)) _)
  have HB1 := Lib.hid (show Below w.heap.size w w1 from hbn)
  have K0_1 := Lib.hid (show Blk w1 (w.heap.size) 25 #[.int .i64 (N), .int .i64 (D)] by rw [← hwn]; repeat' (first | exact Blk.at_ _ (by first | rfl | (simp; done) | (simp; omega)) _ _ | refine Blk.drewN ?_ _ | refine Blk.drew ?_ | refine Blk.alloc ?_ _ | refine Blk.far ?_ (by first | omega | (simp; done) | (simp; omega)) _ | assumption))
  have HN1 := Lib.hid hbn
  have hz1 := hbn.size
  clear hwn hbn
  have l0_1 : w.heap.size < w1.heap.size := K0_1.out.lt
  have z0_0_1 : w1.cell? ⟨w.heap.size, 0, none⟩ = some (.int .i64 (N)) := K0_1.out.cell 0
  have z0_1_1 : w1.cell? ⟨w.heap.size, 1, none⟩ = some (.int .i64 (D)) := K0_1.out.cell 1
  go_loopw [5, 6] (fun o x wr => ∃ i : Nat, i ≤ n ∧ x = .int .i64 i ∧ Below w1.heap.size w1 wr ∧ wr.ownsRow w1.heap.size 3 1 o i (((l.take i).map (clampF N D)).map (.int .i64))) (fun _ x _ => n - (intOf x).toNat)
  case atStart => exact ⟨0, by omega, rfl, Below.refl _ _, World.ownsRow_nil _ _ _ _⟩
  case round =>
    obtain ⟨i, hi, rfl, hb, ho⟩ := hrel
    obtain ⟨w2, hnm⟩ : ∃ z : World, z = wr := ⟨_, rfl⟩
    subst hnm
    have HBJ := Lib.hid hb
    have HO2 := Lib.hid ho
    have hb2s := hb.size
    have hk2 := K0_1.out.below hb K0_1.out.lt
    have hbw := HB1.out.trans (hb.mono HB1.out.size)
    clear hb ho
    by_cases hlt : i < n
    rotate_left
    · obtain rfl : n = i := by omega
      have ho := HO2.out
      rw [List.take_of_length_le (by rw [HLN.out]; omega)] at ho
      obtain ⟨A', c', rfl, hr⟩ := own_reads ho
      have HR := Lib.hid hr
      have HBW := Lib.hid hbw
      clear ho hr hbw hk2
      go_wp2
      go_ret
      exact ⟨A', c', rfl, HBW.out, HR.out⟩
    have hii : (i : Int) < (n : Int) := by omega
    have ei := IntWalk.i64_in ((i : Int) + 1) ⟨by omega, by omega⟩
    obtain ⟨xb, xo, ⟨r1, r2⟩, hAe, hxb, hri, c0, c1⟩ := ((HX.out.below HB1.out).below (HBJ.out.mono HB1.out.size)).pair hlt
    simp only at c0 c1
    subst hAe
    have hr := HL.out _ (List.mem_of_getElem? hri)
    simp only at hr
    obtain ⟨x0, hx0⟩ : ∃ x, r1 * D = x := ⟨_, rfl⟩
    obtain ⟨x1, hx1⟩ : ∃ x, r2 * D = x := ⟨_, rfl⟩
    have p1 := prod_small (x := r1) (y := D) (X := 100000) (Y := 10) (by omega) (by omega) (by omega) (by omega)
    have p2 := prod_small (x := r2) (y := D) (X := 100000) (Y := 10) (by omega) (by omega) (by omega) (by omega)
    rw [hx0] at p1
    rw [hx1] at p2
    have f1 : IntKind.i64.wrap (r1 * D) = x0 := by rw [hx0]; exact IntWalk.i64_in x0 ⟨by omega, by omega⟩
    have f2 : IntKind.i64.wrap (r2 * D) = x1 := by rw [hx1]; exact IntWalk.i64_in x1 ⟨by omega, by omega⟩
    obtain ⟨z, hz⟩ : ∃ z, max x0 (min x1 N) = z := ⟨_, rfl⟩
    have hcl : clampF N D (r1, r2) = z := by unfold clampF; rw [← hz, ← hx0, ← hx1]
    have HS := Lib.hid (show ((l.take (i + 1)).map (clampF N D)) = (l.take i).map (clampF N D) ++ [z] by rw [List.take_add_one, hri, List.map_append]; show _ ++ [clampF N D (r1, r2)] = _; rw [hcl])
    obtain ⟨W0, hW0⟩ : ∃ W0, W0 = w2.drewN 1 := ⟨_, rfl⟩
    obtain ⟨W1, hW1⟩ : ∃ W1, W1 = W0.alloc (.cells #[.int .i64 z] 3) := ⟨_, rfl⟩
    have d1 : W0.cell? ⟨xb, xo + i * 2, none⟩ = some (.int .i64 r1) := by rw [hW0]; exact c0
    have d2 : W0.cell? ⟨xb, xo + i * 2 + 1, none⟩ = some (.int .i64 r2) := by rw [hW0]; exact c1
    have d3 : W0.cell? ⟨w.heap.size, 0, none⟩ = some (.int .i64 N) := by rw [hW0]; exact hk2.cell 0
    have d4 : W0.cell? ⟨w.heap.size, 1, none⟩ = some (.int .i64 D) := by rw [hW0]; exact hk2.cell 1
    obtain ⟨v', W2, hrun, ho5, hb5⟩ := snoc1i_run w1.heap.size _ i _ z W0 (by rw [hW0]; exact own_drewN HO2.out 1) (by rw [hW0]; exact hb2s) (by omega)
    rw [← hW1] at hrun
    have HRUN := Lib.hid hrun
    have HO5 := Lib.hid (show W2.ownsRow w1.heap.size 3 1 v' (i + 1) (((l.take (i + 1)).map (clampF N D)).map (.int .i64)) by rw [HS.out, List.map_append]; exact ho5)
    have HB5 := Lib.hid ((show Below w1.heap.size w1 W0 by rw [hW0]; exact below_drewN HBJ.out 1).trans hb5)
    clear hrun ho5 hb5 hri hx0 hx1 hcl c0 c1 hk2 hbw
    have HZ := Lib.hid (show (if x0 < (if N < x1 then N else x1) then (if N < x1 then N else x1) else x0) = z by
      rw [← hz]
      by_cases q1 : N < x1
      · rw [if_pos q1]
        by_cases q2 : x0 < N
        · rw [if_pos q2]; omega
        · rw [if_neg q2]; omega
      · rw [if_neg q1]
        by_cases q2 : x0 < x1
        · rw [if_pos q2]; omega
        · rw [if_neg q2]; omega)
    clear hz
    go_wp2_with fail
    refine Fx.region (fun f w' => (w' = if f 22 then W2 else if f 21 then W1 else W0) ∧ True) (by kernel_rfl) (by kernel_rfl) ?_ ?_
    · intro f hf0
      rw [hf0 22, hf0 21]; exact ⟨hW0.symm, trivial⟩
    repeat (first
      | (refine Fx.skip_ (by rfl) (fun f w h => h) ?_; simp only [Act.put, List.setIfInBounds_toArray, List.set_cons_zero, List.set_cons_succ])
      | (refine Fx.val_ ?_ (by rfl) ?_ (fun f w h => h) ?_
         rotate_left
         · intro f w' hD hk
           obtain ⟨jw, _⟩ := id hD
           clear hk hD jw
           go_simp
           try rfl
         simp only [Act.put, List.setIfInBounds_toArray, List.set_cons_zero, List.set_cons_succ]))
    refine Fx.val_ ?_ (by rfl) ?_ (fun f w h => h) ?_
    rotate_left
    · intro f w' hD hk
      obtain ⟨jw, _⟩ := id hD
      have hp8_ : f 8 = false := hk.2.1 8 (by kernel_rfl)
      have hp20_ : f 20 = false := hk.un 20 8 (by kernel_rfl) hp8_
      have hb_ : f 21 = false := hk.un 21 20 (by kernel_rfl) hp20_
      have ha_ : f 22 = false := hk.un 22 21 (by kernel_rfl) hb_
      rw [hb_, ha_] at jw
      simp only [Bool.false_eq_true, if_false] at jw
      have y1 : w'.cell? ⟨xb, xo + i * 2, none⟩ = some (.int .i64 r1) := by rw [jw]; exact d1
      clear hk hD jw hb_ ha_ hp8_ hp20_
      go_simp
      try rfl
    simp only [Act.put, List.setIfInBounds_toArray, List.set_cons_zero, List.set_cons_succ]
    repeat (first
      | (refine Fx.skip_ (by rfl) (fun f w h => h) ?_; simp only [Act.put, List.setIfInBounds_toArray, List.set_cons_zero, List.set_cons_succ])
      | (refine Fx.val_ ?_ (by rfl) ?_ (fun f w h => h) ?_
         rotate_left
         · intro f w' hD hk
           obtain ⟨jw, _⟩ := id hD
           clear hk hD jw
           go_simp
           try rfl
         simp only [Act.put, List.setIfInBounds_toArray, List.set_cons_zero, List.set_cons_succ]))
    refine Fx.val_ ?_ (by rfl) ?_ (fun f w h => h) ?_
    rotate_left
    · intro f w' hD hk
      obtain ⟨jw, _⟩ := id hD
      have hp8_ : f 8 = false := hk.2.1 8 (by kernel_rfl)
      have hp20_ : f 20 = false := hk.un 20 8 (by kernel_rfl) hp8_
      have hb_ : f 21 = false := hk.un 21 20 (by kernel_rfl) hp20_
      have ha_ : f 22 = false := hk.un 22 21 (by kernel_rfl) hb_
      rw [hb_, ha_] at jw
      simp only [Bool.false_eq_true, if_false] at jw
      have y1 : w'.cell? ⟨w.heap.size, 1, none⟩ = some (.int .i64 D) := by rw [jw]; exact d4
      clear hk hD jw hb_ ha_ hp8_ hp20_
      go_simp
      try rfl
    simp only [Act.put, List.setIfInBounds_toArray, List.set_cons_zero, List.set_cons_succ]
    repeat (first
      | (refine Fx.skip_ (by rfl) (fun f w h => h) ?_; simp only [Act.put, List.setIfInBounds_toArray, List.set_cons_zero, List.set_cons_succ])
      | (refine Fx.val_ ?_ (by rfl) ?_ (fun f w h => h) ?_
         rotate_left
         · intro f w' hD hk
           obtain ⟨jw, _⟩ := id hD
           clear hk hD jw
           go_simp
           try rfl
         simp only [Act.put, List.setIfInBounds_toArray, List.set_cons_zero, List.set_cons_succ]))
    refine Fx.val_ ?_ (by rfl) ?_ (fun f w h => h) ?_
    rotate_left
    · intro f w' hD hk
      obtain ⟨jw, _⟩ := id hD
      have hp16_ : f 16 = false := hk.2.1 16 (by kernel_rfl)
      have hp19_ : f 19 = false := hk.un 19 16 (by kernel_rfl) hp16_
      have hp20_ : f 20 = false := hk.un 20 19 (by kernel_rfl) hp19_
      have hb_ : f 21 = false := hk.un 21 20 (by kernel_rfl) hp20_
      have ha_ : f 22 = false := hk.un 22 21 (by kernel_rfl) hb_
      rw [hb_, ha_] at jw
      simp only [Bool.false_eq_true, if_false] at jw
      have y1 : w'.cell? ⟨xb, xo + i * 2 + 1, none⟩ = some (.int .i64 r2) := by rw [jw]; exact d2
      clear hk hD jw hb_ ha_ hp16_ hp19_ hp20_
      go_simp
      try rfl
    simp only [Act.put, List.setIfInBounds_toArray, List.set_cons_zero, List.set_cons_succ]
    repeat (first
      | (refine Fx.skip_ (by rfl) (fun f w h => h) ?_; simp only [Act.put, List.setIfInBounds_toArray, List.set_cons_zero, List.set_cons_succ])
      | (refine Fx.val_ ?_ (by rfl) ?_ (fun f w h => h) ?_
         rotate_left
         · intro f w' hD hk
           obtain ⟨jw, _⟩ := id hD
           clear hk hD jw
           go_simp
           try rfl
         simp only [Act.put, List.setIfInBounds_toArray, List.set_cons_zero, List.set_cons_succ]))
    refine Fx.val_ ?_ (by rfl) ?_ (fun f w h => h) ?_
    rotate_left
    · intro f w' hD hk
      obtain ⟨jw, _⟩ := id hD
      have hp16_ : f 16 = false := hk.2.1 16 (by kernel_rfl)
      have hp19_ : f 19 = false := hk.un 19 16 (by kernel_rfl) hp16_
      have hp20_ : f 20 = false := hk.un 20 19 (by kernel_rfl) hp19_
      have hb_ : f 21 = false := hk.un 21 20 (by kernel_rfl) hp20_
      have ha_ : f 22 = false := hk.un 22 21 (by kernel_rfl) hb_
      rw [hb_, ha_] at jw
      simp only [Bool.false_eq_true, if_false] at jw
      have y1 : w'.cell? ⟨w.heap.size, 1, none⟩ = some (.int .i64 D) := by rw [jw]; exact d4
      clear hk hD jw hb_ ha_ hp16_ hp19_ hp20_
      go_simp
      try rfl
    simp only [Act.put, List.setIfInBounds_toArray, List.set_cons_zero, List.set_cons_succ]
    repeat (first
      | (refine Fx.skip_ (by rfl) (fun f w h => h) ?_; simp only [Act.put, List.setIfInBounds_toArray, List.set_cons_zero, List.set_cons_succ])
      | (refine Fx.val_ ?_ (by rfl) ?_ (fun f w h => h) ?_
         rotate_left
         · intro f w' hD hk
           obtain ⟨jw, _⟩ := id hD
           clear hk hD jw
           go_simp
           try rfl
         simp only [Act.put, List.setIfInBounds_toArray, List.set_cons_zero, List.set_cons_succ]))
    refine Fx.val_ ?_ (by rfl) ?_ (fun f w h => h) ?_
    rotate_left
    · intro f w' hD hk
      obtain ⟨jw, _⟩ := id hD
      have hp19_ : f 19 = false := hk.2.1 19 (by kernel_rfl)
      have hp20_ : f 20 = false := hk.un 20 19 (by kernel_rfl) hp19_
      have hb_ : f 21 = false := hk.un 21 20 (by kernel_rfl) hp20_
      have ha_ : f 22 = false := hk.un 22 21 (by kernel_rfl) hb_
      rw [hb_, ha_] at jw
      simp only [Bool.false_eq_true, if_false] at jw
      have y1 : w'.cell? ⟨w.heap.size, 0, none⟩ = some (.int .i64 N) := by rw [jw]; exact d3
      clear hk hD jw hb_ ha_ hp19_ hp20_
      go_simp
      try rfl
    simp only [Act.put, List.setIfInBounds_toArray, List.set_cons_zero, List.set_cons_succ]
    repeat (first
      | (refine Fx.skip_ (by rfl) (fun f w h => h) ?_; simp only [Act.put, List.setIfInBounds_toArray, List.set_cons_zero, List.set_cons_succ])
      | (refine Fx.val_ ?_ (by rfl) ?_ (fun f w h => h) ?_
         rotate_left
         · intro f w' hD hk
           obtain ⟨jw, _⟩ := id hD
           clear hk hD jw
           go_simp
           try rfl
         simp only [Act.put, List.setIfInBounds_toArray, List.set_cons_zero, List.set_cons_succ]))
    refine Fx.eff_ (.slice (some ⟨W0.heap.size, 0, none⟩) 1 1) (fun w' => W1) (by rfl) ?_ ?_ ?_
    · intro f w' hD hk
      obtain ⟨jw, _⟩ := id hD
      have hb_ : f 21 = false := hk.1
      have ha_ : f 22 = false := hk.un 22 21 (by kernel_rfl) hb_
      rw [hb_, ha_] at jw
      simp only [Bool.false_eq_true, if_false] at jw
      subst jw
      clear hk hD
      rw [hW1]
      go_simp
      rw [HZ.out]
    · intro f w' hD hk
      obtain ⟨jw, _⟩ := id hD
      have hb_ : f 21 = false := hk.1
      have ha_ : f 22 = false := hk.un 22 21 (by kernel_rfl) hb_
      rw [hb_, ha_] at jw
      simp only [Bool.false_eq_true, if_false] at jw
      subst jw
      exact ⟨by simp [Fx.add, ha_], trivial⟩
    simp only [Act.put, List.setIfInBounds_toArray, List.set_cons_zero, List.set_cons_succ]
    refine Fx.eff_ (v') (fun w' => W2) (by rfl) ?_ ?_ ?_
    · intro f w' hD hk
      obtain ⟨jw, _⟩ := id hD
      have hb_ : f 21 = true := hk.2.2.1 21 (by kernel_rfl)
      have ha_ : f 22 = false := hk.1
      rw [hb_, ha_] at jw
      simp only [Bool.false_eq_true, if_false, if_true] at jw
      subst jw
      exact exec_append (.tmp 13) (.tmp 34) _ rfl HRUN.out
    · intro f w' hD hk
      obtain ⟨jw, _⟩ := id hD
      have hb_ : f 21 = true := hk.2.2.1 21 (by kernel_rfl)
      have ha_ : f 22 = false := hk.1
      rw [hb_, ha_] at jw
      simp only [Bool.false_eq_true, if_false, if_true] at jw
      subst jw
      exact ⟨by simp [Fx.add], trivial⟩
    simp only [Act.put, List.setIfInBounds_toArray, List.set_cons_zero, List.set_cons_succ]
    repeat (first
      | (refine Fx.skip_ (by rfl) (fun f w h => h) ?_; simp only [Act.put, List.setIfInBounds_toArray, List.set_cons_zero, List.set_cons_succ])
      | (refine Fx.val_ ?_ (by rfl) ?_ (fun f w h => h) ?_
         rotate_left
         · intro f w' hD hk
           obtain ⟨jw, _⟩ := id hD
           clear hk hD jw
           go_simp
           try rfl
         simp only [Act.put, List.setIfInBounds_toArray, List.set_cons_zero, List.set_cons_succ]))
    refine Fx.nil_ ?_
    intro f w1 hall hD
    have hf22 := hall 22 (by simp)
    obtain ⟨jw, _⟩ := hD
    simp only [hf22, if_true] at *
    subst jw
    try clear hall
    clear d1 d2 d3 d4
    go_wp2
    go_roundw
    case rel => exact ⟨i + 1, by omega, by go_num, HB5.out, HO5.out⟩
    case measure => simp [intOf]; omega
end Go.Proofs.Ytmejiafmmmeloaa

end

section
/- The law's copy of a map, and whether a map is small. -/
namespace Go.Proofs.Ytmejiafmmmeloaa
open Go Go.RowKit

/-- At most ten zones, or a few more than the limit. -/
def fewB6 (n : Nat) : Bool := !((decide (10 < n) && decide (n ≤ 40)) || decide (42 < n))
/-- The region that copies the lists of a map and stores the copies into the block of the result. -/
structure MpD (B n1 n2 n3 : Nat) (l1 l2 l3 : List Value) (W : World) (g : Nat → Option Pick2) (f : Nat → Bool) (w' : World) : Prop where
  bel : Below B W w'
  o1 : ∀ x, g 2 = some x → w'.ownsRow W.heap.size 3 1 (.slice x.1.1 n1 x.1.2) n1 l1
  o2 : ∀ x, g 5 = some x → w'.ownsRow W.heap.size 3 1 (.slice x.1.1 n2 x.1.2) n2 l2
  o3 : ∀ x, g 8 = some x → w'.ownsRow W.heap.size 3 1 (.slice x.1.1 n3 x.1.2) n3 l3
  blk0 : f 10 = false → Blk w' B 38 #[.slice none 0 0, .slice none 0 0, .slice none 0 0]
  blk1 : f 10 = true → ∀ x y z, g 2 = some x → g 5 = some y → g 8 = some z → Blk w' B 38 #[.slice x.1.1 n1 x.1.2, .slice y.1.1 n2 y.1.2, .slice z.1.1 n3 z.1.2]
section
variable {B n1 n2 n3 i : Nat} {l1 l2 l3 : List Value} {W w' w'' : World} {g : Nat → Option Pick2} {f : Nat → Bool}
theorem MpD.start (hB : Blk W B 38 #[.slice none 0 0, .slice none 0 0, .slice none 0 0]) (h6 : f 10 = false) : MpD B n1 n2 n3 l1 l2 l3 W (fun _ => none) f (W.drewN 1) :=
  ⟨below_drewN (Below.refl _ _) 1, fun _ h => (nomatch h), fun _ h => (nomatch h), fun _ h => (nomatch h), fun _ => Blk.drewN hB 1, fun e => (by rw [h6] at e; cases e)⟩
theorem MpD.same (h : MpD B n1 n2 n3 l1 l2 l3 W g f w') (hi : i ≠ 10) : MpD B n1 n2 n3 l1 l2 l3 W g (Fx.add f i) w' :=
  ⟨h.bel, h.o1, h.o2, h.o3, fun hf => h.blk0 (by rwa [add_ne' hi] at hf), fun hf => h.blk1 (by rwa [add_ne' hi] at hf)⟩
theorem MpD.store (h : MpD B n1 n2 n3 l1 l2 l3 W g f w') (hB : B < W.heap.size) (h6 : f 10 = false) {x y z : Pick2} (hx : g 2 = some x) (hy : g 5 = some y) (hz : g 8 = some z) :
    MpD B n1 n2 n3 l1 l2 l3 W g (Fx.add f 10) (((w'.setCell ⟨B, 0, none⟩ (.slice x.1.1 n1 x.1.2)).setCell ⟨B, 1, none⟩ (.slice y.1.1 n2 y.1.2)).setCell ⟨B, 2, none⟩ (.slice z.1.1 n3 z.1.2)) := by
  have key : ∀ {A : Option Addr} {n c : Nat} {l : List Value}, w'.ownsRow W.heap.size 3 1 (.slice A n c) n l → (((w'.setCell ⟨B, 0, none⟩ (.slice x.1.1 n1 x.1.2)).setCell ⟨B, 1, none⟩ (.slice y.1.1 n2 y.1.2)).setCell ⟨B, 2, none⟩ (.slice z.1.1 n3 z.1.2)).ownsRow W.heap.size 3 1 (.slice A n c) n l := by
    intro A n c l ho
    have hne : (Value.slice A n c).ownBlock ≠ some B := fun e => by have := (own_lt ho e).1; omega
    exact own_set (own_set (own_set ho hne _) hne _) hne _
  refine ⟨((h.bel.setCell (p := ⟨B, 0, none⟩) (Nat.le_refl _) _).setCell (p := ⟨B, 1, none⟩) (Nat.le_refl _) _).setCell (p := ⟨B, 2, none⟩) (Nat.le_refl _) _, fun a ha => key (h.o1 a ha), fun a ha => key (h.o2 a ha), fun a ha => key (h.o3 a ha), fun e => ?_, fun _ a b c ha hb hc => ?_⟩
  · rw [add_same] at e; cases e
  · rw [hx] at ha; rw [hy] at hb; rw [hz] at hc
    cases ha; cases hb; cases hc
    have := (((h.blk0 h6).set_ 0 (.slice x.1.1 n1 x.1.2)).set_ 1 (.slice y.1.1 n2 y.1.2)).set_ 2 (.slice z.1.1 n3 z.1.2)
    simpa only [List.setIfInBounds_toArray, List.set_cons_zero, List.set_cons_succ] using this
end

end Go.Proofs.Ytmejiafmmmeloaa

end

section
/- The reference's check of a map. -/
namespace Go.Proofs.Ytmejiafmmmeloaa
open Go Go.RowKit

end Go.Proofs.Ytmejiafmmmeloaa

end

section
/- The mean of a map. -/
namespace Go.Proofs.Ytmejiafmmmeloaa
open Go Go.RowKit

/-- A right map out of its lists. -/
def rmL (n b1 o1 c1 b2 o2 c2 b3 o3 c3 : Nat) (hs qs us : List Int) : Rm := ⟨n, b1, o1, c1, b2, o2, c2, b3, o3, c3, fun i => hs.getD i 0, fun i => qs.getD i 0, fun i => us.getD i 0⟩
end Go.Proofs.Ytmejiafmmmeloaa

end

section
/- The reference's mean of a map. -/
namespace Go.Proofs.Ytmejiafmmmeloaa
open Go Go.RowKit

end Go.Proofs.Ytmejiafmmmeloaa

end

section
/- A class of worlds for drawn regions of calls: what is chosen, of any type, keeps its facts. -/
namespace Go.Proofs.Ytmejiafmmmeloaa
open Go Go.RowKit

def StbT {α : Type} (Pf : Nat → α → World → Prop) : Prop := ∀ i x (w w' : World), Below w.heap.size w w' → Pf i x w → Pf i x w'
structure Kt {α : Type} (Pf : Nat → α → World → Prop) (W : World) (g : Nat → Option α) (w' : World) : Prop where
  bel : Below W.heap.size W w'
  has : ∀ i x, g i = some x → Pf i x w'
section
variable {α : Type} {Pf : Nat → α → World → Prop} {W w' w'' : World} {g : Nat → Option α} {f : Nat → Bool}
theorem Kt.start : Kt Pf W (fun _ => none) (W.drewN 1) := ⟨below_drewN (Below.refl _ _) 1, fun _ _ h => nomatch h⟩
theorem Kt.call (h : Kt Pf W g w') (hs : StbT Pf) (hb : Below w'.heap.size w' w'') : Kt Pf W g w'' := ⟨step_below hb h.bel, fun i x hx => hs i x _ _ hb (h.has i x hx)⟩
theorem Kt.choose (h : Kt Pf W g w') (hs : StbT Pf) (hb : Below w'.heap.size w' w'') (i : Nat) (x : α) (hx : Pf i x w'') : Kt Pf W (Fx.upd g i x) w'' := ⟨step_below hb h.bel, fun j y hy => by
  by_cases e : j = i
  · subst e
    rw [Fx.upd_same] at hy
    cases hy
    exact hx
  · rw [upd_ne e] at hy
    exact hs j y _ _ hb (h.has j y hy)⟩
end
/-- Three lists. -/
abbrev Pick3 := Pick × Pick × Pick
end Go.Proofs.Ytmejiafmmmeloaa

end

section
/- The law's copy of a right map. -/
namespace Go.Proofs.Ytmejiafmmmeloaa
open Go Go.RowKit

/-- The same numbers, elsewhere. -/
structure LikeM (m x : Rm) : Prop where
  n : x.n = m.n
  h : x.h = m.h
  q : x.q = m.q
  u : x.u = m.u
theorem LikeM.sums {m x : Rm} (h : LikeM m x) (k : Nat) : x.sw k = m.sw k ∧ x.sq k = m.sq k ∧ x.sh k = m.sh k := by
  unfold Rm.sw Rm.sq Rm.sh
  rw [h.h, h.q, h.u]
  exact ⟨rfl, rfl, rfl⟩
theorem LikeM.ok {m x : Rm} (h : LikeM m x) (hm : m.Ok) : x.Ok := by
  obtain ⟨a1, a2, a3, a4, a5⟩ := hm
  exact ⟨by rw [h.n]; exact a1, by rw [h.n]; exact a2, by rw [h.n, h.h]; exact a3, by rw [h.n, h.q]; exact a4, by rw [h.n, h.u]; exact a5⟩
theorem CkOk.lay {m : Rm} {w w' : World} (h : CkOk m w) (hb : Below w.heap.size w w') : CkOk m w' := fun w2 hb2 => h w2 (hb.trans (hb2.mono hb.size))
/-- What is known of a map that is a copy of a right one. -/
structure CopyM (m x : Rm) (w : World) : Prop where
  like : LikeM m x
  at_ : RmAt x w
  ck : CkOk x w
theorem CopyM.lay {m x : Rm} {w w' : World} (h : CopyM m x w) (hb : Below w.heap.size w w') : CopyM m x w' := ⟨h.like, h.at_.lay hb, h.ck.lay hb⟩
end Go.Proofs.Ytmejiafmmmeloaa

end

section
/- Lines: their errors on both sides; the removal of a zone, as the reference has it. -/
namespace Go.Proofs.Ytmejiafmmmeloaa
open Go Go.RowKit

def lowB (a b : Int) : Bool := decide (0 < b) && decide (Int.gcd a b = 1)
def bigB6 (a b : Int) : Bool := decide (1000 < b) || !(withinB a (-1000000000) 1000000000)
/-- The error of a line. -/
def lineErr (a b c d : Int) : Int := if (lowB a b && lowB c d) = false then 3 else if (bigB6 a b || bigB6 c d) = true then 2 else 0
end Go.Proofs.Ytmejiafmmmeloaa

end

section
/- The reference's removal of a zone, and its check of a line. -/
namespace Go.Proofs.Ytmejiafmmmeloaa
open Go Go.RowKit

/-- What the check of a line answers. -/
def crefF (m : Rm) (a b c d x y : Int) : Int × Int :=
  match (List.range m.n).find? (fun i => decide (remN m a b c d i < 0)) with
  | some i => ((i : Int), 26)
  | none => if (withinB x 0 ((m.n : Int) - 1) && withinB y 0 ((m.n : Int) - 1)) = false then (0, 6)
    else if remN m a b c d x.toNat ≠ 0 ∨ remN m a b c d y.toNat ≠ 0 ∨ m.sq m.n < m.q x.toNat * m.sw m.n ∨ m.q y.toNat * m.sw m.n < m.sq m.n then (0, 22) else (0, 0)
section
variable {m : Rm} {a b c d x y : Int}
end
end Go.Proofs.Ytmejiafmmmeloaa

end

section
/- The reference's check of a line of least removal. -/
namespace Go.Proofs.Ytmejiafmmmeloaa
open Go Go.RowKit

@[go_sem ↓ high] theorem field_num (u v : Int) (w : World) : (Instr.field 25 (.agg #[.int .i64 u, .int .i64 v]) 0).run Try.prog w = .ok (.int .i64 u) w := by kernel_rfl
@[go_sem ↓ high] theorem field_den (u v : Int) (w : World) : (Instr.field 25 (.agg #[.int .i64 u, .int .i64 v]) 1).run Try.prog w = .ok (.int .i64 v) w := by kernel_rfl
end Go.Proofs.Ytmejiafmmmeloaa

end

section
/- The program's check of a line of least removal; the line that it finds, the removals. -/
namespace Go.Proofs.Ytmejiafmmmeloaa
open Go Go.RowKit

end Go.Proofs.Ytmejiafmmmeloaa

end
