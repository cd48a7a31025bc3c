import Derived.Test.YtoiconebcmneiabQ8
import Derived.Test.YtoiconebcmneiabQ7
import Derived.Test.YtoiconebcmneiabQ4
import Derived.Test.YtoiconebcmneiabQ5
import Derived.Test.YtoiconebcmneiabQ1

section
/- The examples with which each statement begins are so. -/
namespace Go.Proofs.Ytoiconebcmneiab
open Go.RowKit

theorem tree_any (w : World) : Calls Try.prog 42 #[] w fun e w' => e = .returned (.slice (some ⟨w.heap.size, 0, none⟩) 3 3) ∧ w' = w.alloc (.cells (rkCells treeL).toArray 90) := by
  go_enter Try.func42, Try.ntmps42
  go_wp2
  go_ret
  exact ⟨rfl, rfl⟩

theorem treeL_fits : ∀ r ∈ treeL, r.Fits := by
  intro r hr
  simp only [treeL, List.mem_cons, List.not_mem_nil, or_false] at hr
  rcases hr with rfl | rfl | rfl <;> exact ⟨by decide, by decide, by decide⟩

theorem awake_shares (A : Option Addr) (N : Nat) (w : World) (hx : Reads w N 5 A 3 (rkCells treeL)) (hN : N ≤ w.heap.size) :
    Calls Try.prog 24 #[.slice A 3 3] w fun e w' => ∃ B c, e = .returned (.tuple #[.slice B 4 c, .int .i64 0]) ∧ Below w.heap.size w w' ∧ Reads w' w'.heap.size 2 B 4 (cells2 [(1, 3), (1, 3), (1, 12), (1, 4)]) :=
  (Shares_any treeL treeL_fits A 3 3 N w (by decide) hx hN (fun _ => ⟨_, treeL_pts, by decide⟩)).mono fun e w' ⟨hb, _, _, h⟩ => by
    obtain ⟨v, he, ho⟩ := h treeL_open _ treeL_shares
    obtain ⟨B, c, rfl, hr⟩ := own_reads ho
    exact ⟨B, c, he, hb, hr⟩

theorem awake_back (A : Option Addr) (N : Nat) (w : World) (hx : Reads w N 2 A 2 (cells2 [(10, 40), (20, 30)])) (hN : N ≤ w.heap.size) :
    Calls Try.prog 32 #[.slice A 2 2] w fun e w' => e = .returned (.tuple #[.int .i64 12, .int .i64 0]) ∧ Below w.heap.size w w' :=
  (returns_any A 2 2 N _ w hx hN (by decide)).mono fun e w' ⟨he, hb⟩ => ⟨by rw [he, awake_returns], hb⟩

theorem awake_pair (w : World) : Calls Try.prog 43 #[.agg #[.int .i64 355, .int .i64 113], .int .i64 1, .int .i64 100] w fun e w' => e = .returned (.tuple #[.agg #[.int .i64 22, .int .i64 7], .int .i64 0]) ∧ Below w.heap.size w w' :=
  (bestpair_any 355 113 1 100 w (by decide) (by decide) (by decide) (by decide)).mono fun e w' ⟨hb, _, h⟩ => ⟨by rw [h (by kernel_rfl), awake_best], hb⟩

theorem awake_any (w : World) : Calls Try.prog 8 #[] w fun e w' => e = .returned (.bool true) ∧ Below w.heap.size w w' := by
  go_enter Try.func8, Try.ntmps8
  go_wp2_with (first | (go_at_call 42; refine (tree_any _).mono ?_; rintro e w1 ⟨rfl, rfl⟩))
  refine (awake_shares _ _ _ (Blk.reads (n := 3) (size := 5) (Blk.at_ w rfl _ _) (by kernel_rfl)) (Nat.le_refl _)).mono ?_
  rintro e w1 ⟨B, c, rfl, hb1, hr1⟩
  have hb1' : Below w.heap.size w w1 := ((Below.refl _ _).alloc (Nat.le_refl _) _).trans (hb1.mono (by simp))
  have HB1 := Lib.hid hb1'
  have HR1 := Lib.hid hr1
  clear hb1 hb1' hr1
  go_wp2_with fail
  have hwant : Blk (w1.alloc (.cells #[.int .i64 1, .int .i64 3, .int .i64 1, .int .i64 3, .int .i64 1, .int .i64 12, .int .i64 1, .int .i64 4] 53)) w1.heap.size 53 #[.int .i64 1, .int .i64 3, .int .i64 1, .int .i64 3, .int .i64 1, .int .i64 12, .int .i64 1, .int .i64 4] := Blk.new _ _ _
  refine (awake_back _ _ _ (Blk.reads (n := 2) (size := 2) (Blk.at_ _ (by simp) _ _) (by kernel_rfl)) (Nat.le_refl _)).mono ?_
  rintro e w2 ⟨rfl, hb2⟩
  have hwant2 := (hwant.alloc (.cells #[.int .i64 10, .int .i64 40, .int .i64 20, .int .i64 30] 74)).below hb2 (by simp; omega)
  simp only [World.size_alloc] at hb2
  have hb2' : Below w1.heap.size w1 w2 := (((Below.refl _ _).alloc (Nat.le_refl _) _).alloc (by simp) _).trans (hb2.mono (by omega))
  have hz2 := hb2.size
  have HB2 := Lib.hid hb2'
  have HW2 := Lib.hid hwant2
  clear hb2 hb2' hwant hwant2
  go_wp2_with fail
  refine (awake_pair _).mono ?_
  rintro e w3 ⟨rfl, hb3⟩
  have hwant3 := HW2.out.below hb3 HW2.out.lt
  have hr3 := (HR1.out.belowLe HB2.out (Nat.le_refl _)).belowLe hb3 (HB2.out.size)
  have hz3 := hb3.size
  have HB3 := Lib.hid (HB1.out.trans ((HB2.out.mono HB1.out.size).trans (hb3.mono (Nat.le_trans HB1.out.size HB2.out.size))))
  have HR3 := Lib.hid hr3
  have HW3 := Lib.hid hwant3
  clear hwant3 hr3 hb3
  go_wp2_with fail
  have hW : Blk (w3.alloc (.cells #[.int .i64 22, .int .i64 7] 74)) w1.heap.size 53 _ := HW3.out.alloc _
  refine (fracs_any B (some ⟨w1.heap.size, 0, none⟩) c 4 4 4 [(1, 3), (1, 3), (1, 12), (1, 4)] [(1, 3), (1, 3), (1, 12), (1, 4)] _ (w3.alloc (.cells #[.int .i64 22, .int .i64 7] 74)).heap.size (Reads.more (HR3.out.alloc (by have := HB2.out.size; omega) _) (by have := HB2.out.size; simp; omega)) (Blk.reads (n := 4) (size := 2) hW (by kernel_rfl)) (by decide) (by decide)).mono ?_
  rintro e w4 ⟨rfl, q, rfl⟩
  have hg : Blk (w3.alloc (.cells #[.int .i64 22, .int .i64 7] 74)) w3.heap.size 74 #[.int .i64 22, .int .i64 7] := Blk.new _ _ _
  go_wp2
  go_ret
  exact ⟨rfl, below_drewN (HB3.out.alloc HB3.out.size _) _⟩

end Go.Proofs.Ytoiconebcmneiab

end

section
/- Copies of lists: what append to an empty list of its own makes, and the contracts of the functions that copy. -/
namespace Go.Proofs.Ytoiconebcmneiab
open Go.RowKit

theorem copy_run {P : Program} (t ty e : TypeId) (z : Value) (size bytes : Nat) (ht : P.underlying t = some (.slice e)) (hi : (P.info? e).map (fun i => (i.zero, i.size, i.bytes)) = some (some z, size, bytes)) (hzs : z.cells.size = size) (hsz : 0 < size)
    (w : World) (N : Nat) (A : Option Addr) (n c : Nat) (xs : List Value) (hr : Reads w N size A n xs) (hN : N ≤ w.heap.size) (h1 : ∀ u ∈ xs, u.oneCell' = true) (hn : n ≤ maxLen) (hbytes : n * bytes ≤ 140737488355328) :
    ∃ v' W2, (Builtin.append_ #[t, t] ty #[.slice (some ⟨w.heap.size, 0, none⟩) 0 0, .slice A n c]).run P (w.alloc (.cells #[] e)) = .ok v' W2 ∧ W2.ownsRow w.heap.size e size v' n xs ∧ Below w.heap.size w W2 := by
  obtain ⟨i0, hi0, hz0, hz1, hz2⟩ := info_parts hi
  have ho : (w.alloc (.cells #[] e)).ownsRow w.heap.size e size (.slice (some ⟨w.heap.size, 0, none⟩) 0 0) 0 [] :=
    ⟨by simp, .inr ⟨w.heap.size, 0, #[], rfl, Nat.le_refl _, Blk.new _ _ _, by omega, by decide, by simp, by simp⟩⟩
  obtain ⟨v', W2, hrun, ho2, hg, -⟩ := run_append_any (P := P) (w.alloc (.cells #[] e)) w.heap.size t ty e i0 z size bytes ht hi0 hz0 hz1 hz2 hzs hsz _ 0 [] ho N A n c xs (hr.alloc hN _) h1 (by omega) (by rw [Nat.zero_add]; omega) (by simp)
  refine ⟨v', W2, hrun, by simpa using ho2, ?_⟩
  exact ((Below.refl _ _).alloc (Nat.le_refl _) _).grown hg (by simp) (fun k hk => (own_lt ho hk).1)

theorem one_cells2 (l : List (Int × Int)) : ∀ u ∈ cells2 l, u.oneCell' = true := by
  intro u hu
  unfold cells2 at hu
  rw [List.mem_flatMap] at hu
  obtain ⟨p, -, hp⟩ := hu
  simp at hp
  rcases hp with rfl | rfl <;> rfl
theorem one_ints (l : List Int) : ∀ u ∈ l.map (Value.int .i64), u.oneCell' = true := by
  intro u hu
  obtain ⟨p, -, rfl⟩ := List.mem_map.1 hu
  rfl

theorem info_pair : (Try.prog.info? 74).map (fun i => (i.zero, i.size, i.bytes)) = some (some (.agg #[.int .i64 0, .int .i64 0]), 2, 16) := by kernel_rfl

theorem info_range : (Try.prog.info? 97).map (fun i => (i.zero, i.size, i.bytes)) = some (some (.agg #[.int .i64 0, .int .i64 0]), 2, 16) := by kernel_rfl

theorem info_int : (Try.prog.info? 3).map (fun i => (i.zero, i.size, i.bytes)) = some (some (.int .i64 0), 1, 8) := by kernel_rfl

/-- A copy: the elements, in memory of its own. -/
def CopyPost (w : World) (e : TypeId) (size n : Nat) (xs : List Value) (en : Ending) (w' : World) : Prop :=
  ∃ A c, en = .returned (.slice A n c) ∧ Below w.heap.size w w' ∧ Reads w' w'.heap.size size A n xs ∧ w'.ownsRow w.heap.size e size (.slice A n c) n xs
theorem CopyPost.of {w w' : World} {e : TypeId} {size n : Nat} {xs : List Value} {v : Value} (ho : w'.ownsRow w.heap.size e size v n xs) (hb : Below w.heap.size w w') : CopyPost w e size n xs (.returned v) w' := by
  obtain ⟨A, c, rfl, hr⟩ := own_reads ho
  exact ⟨A, c, rfl, hb, hr, ho⟩




theorem copyints_any (A : Option Addr) (n c N : Nat) (l : List Int) (w : World) (hx : Reads w N 1 A n (l.map (.int .i64))) (hN : N ≤ w.heap.size) (hn : n ≤ 1000000) :
    Calls Try.prog 20 #[.slice A n c] w (CopyPost w 3 1 n (l.map (.int .i64))) := by
  obtain ⟨v', W2, hrun, ho, hb⟩ := copy_run (P := Try.prog) 40 40 3 _ 1 8 Try.underlying40 info_int rfl (by omega) w N A n c (l.map (.int .i64)) hx hN (one_ints l) (by unfold maxLen; omega) (by omega)
  have HRUN := Lib.hid hrun
  have HO := Lib.hid ho
  have HB := Lib.hid hb
  clear hrun ho hb
  go_enter Try.func20, Try.ntmps20
  go_wp2_with (first | (at_builtin; refine wpList_app _ W2 v' rfl _ _ _ rfl _ _ rfl rfl HRUN.out ?_))
  go_ret
  exact CopyPost.of HO.out HB.out

end Go.Proofs.Ytoiconebcmneiab

end

section
/- Two lists joined in memory of their own; the example with which the statements of the top begin. -/
namespace Go.Proofs.Ytoiconebcmneiab
open Go.RowKit

/-- append(append([]T{}, a...), b...). -/
theorem join_run {P : Program} (t ty e : TypeId) (z : Value) (size bytes : Nat) (ht : P.underlying t = some (.slice e)) (hi : (P.info? e).map (fun i => (i.zero, i.size, i.bytes)) = some (some z, size, bytes)) (hzs : z.cells.size = size) (hsz : 0 < size)
    (w : World) (N : Nat) (A : Option Addr) (n c : Nat) (xs : List Value) (hr : Reads w N size A n xs) (hN : N ≤ w.heap.size) (h1 : ∀ u ∈ xs, u.oneCell' = true)
    (B : Option Addr) (m cb : Nat) (ys : List Value) (hy : Reads w N size B m ys) (h2 : ∀ u ∈ ys, u.oneCell' = true) (hn : n + m ≤ maxLen) (hbytes : (n + m) * bytes ≤ 140737488355328) :
    ∃ v1 W1 v2 W2, (Builtin.append_ #[t, t] ty #[.slice (some ⟨w.heap.size, 0, none⟩) 0 0, .slice A n c]).run P (w.alloc (.cells #[] e)) = .ok v1 W1 ∧ (Builtin.append_ #[t, t] ty #[v1, .slice B m cb]).run P W1 = .ok v2 W2 ∧
      W2.ownsRow w.heap.size e size v2 (n + m) (xs ++ ys) ∧ Below w.heap.size w W2 := by
  have hb1 : n * bytes ≤ 140737488355328 := Nat.le_trans (Nat.mul_le_mul_right _ (by omega)) hbytes
  obtain ⟨i0, hi0, hz0, hz1, hz2⟩ := info_parts hi
  obtain ⟨v1, W1, hrun1, ho1, hbl⟩ := copy_run (P := P) t ty e z size bytes ht hi hzs hsz w N A n c xs hr hN h1 (by omega) hb1
  obtain ⟨v2, W2, hrun2, ho2, hg2, -⟩ := run_append_any (P := P) W1 w.heap.size t ty e i0 z size bytes ht hi0 hz0 hz1 hz2 hzs hsz v1 n xs ho1 N B m cb ys (hy.belowLe hbl hN) h2 hn hbytes hbl.size
  exact ⟨v1, W1, v2, W2, hrun1, hrun2, ho2, hbl.grown hg2 hbl.size (fun k hk => (own_lt ho1 hk).1)⟩

set_option maxRecDepth 100000 in
theorem topborne_any (w : World) : Calls Try.prog 28 #[] w fun e w' => e = .returned (.bool true) ∧ Below w.heap.size w w' := by
  go_enter Try.func28, Try.ntmps28
  go_wp2_with (first | (go_at_call 42; refine (tree_any _).mono ?_; rintro e w1 ⟨rfl, rfl⟩))
  refine (awake_shares _ _ _ (Blk.reads (n := 3) (size := 5) (Blk.at_ w rfl _ _) (by kernel_rfl)) (Nat.le_refl _)).mono ?_
  rintro e w1 ⟨B, c, rfl, hb1, hr1⟩
  have hb1' : Below w.heap.size w w1 := ((Below.refl _ _).alloc (Nat.le_refl _) _).trans (hb1.mono (by simp))
  have HB1 := Lib.hid hb1'
  obtain ⟨b, o, p, rfl, hlt, hp, c0, c1⟩ := hr1.pair (i := 2) (by omega)
  obtain rfl : p = (1, 12) := by simpa using hp.symm
  simp only at c0 c1
  clear hb1 hb1' hr1 hp
  go_wp2
  go_ret
  exact ⟨rfl, HB1.out⟩

end Go.Proofs.Ytoiconebcmneiab

end

section
/- Steps from one named world to the next: what a call that only makes memory leaves as it was. -/
namespace Go.Proofs.Ytoiconebcmneiab
open Go.RowKit

section
variable {w W W1 : World}
theorem step_below (hb : Below W.heap.size W W1) (h : Below w.heap.size w W) : Below w.heap.size w W1 := h.trans (hb.mono h.size)
theorem step_belowAt {B : Nat} (hb : Below W.heap.size W W1) (h : Below B w W) (hB : B ≤ w.heap.size) : Below B w W1 := h.trans (hb.mono (Nat.le_trans hB h.size))
theorem step_blk {g : Nat} {t : TypeId} {cs : Array Value} (hb : Below W.heap.size W W1) (h : Blk W g t cs) : Blk W1 g t cs := h.below hb h.lt
theorem step_cell {b o : Nat} {v : Value} (hb : Below W.heap.size W W1) (h : W.cell? ⟨b, o, none⟩ = some v) (hp : b < W.heap.size) : W1.cell? ⟨b, o, none⟩ = some v := (hb.cell (p := ⟨b, o, none⟩) hp).trans h
theorem step_reads {B s n : Nat} {A : Option Addr} {xs : List Value} (hb : Below W.heap.size W W1) (h : Reads W B s A n xs) (hB : B ≤ W.heap.size) : Reads W1 B s A n xs := h.belowLe hb hB
/-- The cell of a slice's element. -/
theorem Reads.cell_ {B n k : Nat} {A : Option Addr} {xs : List Value} {v : Value} (h : Reads W B 1 A n xs) (hk : k < n) (hv : xs[k]? = some v) : ∃ b o, A = some ⟨b, o, none⟩ ∧ b < B ∧ W.cell? ⟨b, o + k, none⟩ = some v := by
  obtain ⟨b, o, u, hA, hb, hu, hc⟩ := h.at_ hk
  obtain rfl := Option.some.inj (hu.symm.trans hv)
  exact ⟨b, o, hA, hb, hc⟩
end

end Go.Proofs.Ytoiconebcmneiab

end

section
/- Contracts of the reference's comparison of pairs of gears, and of its search. -/
namespace Go.Proofs.Ytoiconebcmneiab
open Go.RowKit

theorem abs_in (a : Int) (w : World) (h1 : -9223372036854775808 < a) (h2 : a ≤ 9223372036854775807) :
    Calls Try.prog 81 #[.int .i64 a] w fun e w' => e = .returned (.int .i64 (a.natAbs : Int)) ∧ w = w' :=
  (abs_any a w (by omega) h2).mono fun e w' ⟨he, hw⟩ => ⟨by rw [he]; exact ret_int (IntWalk.wrap64_in _ ⟨by omega, by omega⟩), hw⟩

theorem lowest_any (a b : Int) (w : World) (h1 : -9223372036854775808 < a) (h2 : a ≤ 9223372036854775807) (h3 : 1 ≤ b) (h4 : b ≤ 9223372036854775807) :
    Calls Try.prog 25 #[.int .i64 a, .int .i64 b] w fun e w' => e = .returned (.agg #[.int .i64 (a / (Int.gcd a b : Int)), .int .i64 (b / (Int.gcd a b : Int))]) ∧ Below w.heap.size w w' := by
  have hg := gcd_small a b (by omega) h4
  have hp : 0 < Int.gcd a b := Int.gcd_pos_of_ne_zero_right a (by omega)
  have d1 := div_gcd_in a b h1 h2 (by omega)
  have d2 := div_gcd_in b a (by omega) h4 (by rw [Int.gcd_comm]; omega)
  rw [Int.gcd_comm b a] at d2
  have e1 := tdiv_gcd_left a b
  have e2 := tdiv_gcd_right a b
  have g0 : ¬ (Int.gcd a b : Int) = 0 := by omega
  go_enter Try.func25, Try.ntmps25
  go_wp2_with fail
  refine (gcdref_any _ _ _ (by omega) (by omega) (by omega) (by omega)).mono ?_
  rintro e w' ⟨rfl, nq, rfl⟩
  rw [hg]
  go_wp2_with fail
  go_region
  all_goals go_wp2
  all_goals exact bodyPost_ret (v := .agg #[.int .i64 (a / (Int.gcd a b : Int)), .int .i64 (b / (Int.gcd a b : Int))]) (by simp [results, Try.results25, go_sem]) rfl ⟨rfl, by repeat' (first | exact Below.refl _ _ | exact HB0.out | refine below_drewN ?_ _ | refine Below.drew ?_ | refine Below.alloc ?_ (by first | omega | (simp; done) | (simp; omega) | (simp [World.setCell]; omega)) _ | refine Below.setCell ?_ (by first | omega | (simp; done) | (simp; omega)) _ | assumption)⟩

theorem off_any (rn rd gd gv : Int) (w : World) (h1 : -4000000000000000000 ≤ rn * gv) (h2 : rn * gv ≤ 4000000000000000000) (h3 : -4000000000000000000 ≤ gd * rd) (h4 : gd * rd ≤ 4000000000000000000) :
    Calls Try.prog 78 #[.agg #[.int .i64 rn, .int .i64 rd], .agg #[.int .i64 gd, .int .i64 gv]] w fun e w' =>
      e = .returned (.tuple #[.int .i64 (offF rn rd gd gv), .int .i64 gv]) ∧ Below w.heap.size w w' := by
  have v1 := IntWalk.i64_in (rn * gv) ⟨by omega, by omega⟩
  have v2 := IntWalk.i64_in (gd * rd) ⟨by omega, by omega⟩
  have v3 := IntWalk.i64_in (gd * rd - rn * gv) ⟨by omega, by omega⟩
  have v4 : ((gd * rd - rn * gv).natAbs : Int) = offF rn rd gd gv := by unfold offF; omega
  have V4 := Lib.hid v4
  have hlo : -9223372036854775808 < gd * rd - rn * gv := by omega
  have hhi : gd * rd - rn * gv ≤ 9223372036854775807 := by omega
  clear v4
  go_enter Try.func78, Try.ntmps78
  go_wp2
  refine Fx.regionW (fun W f w' => Below W.heap.size W w') (by kernel_rfl) (by kernel_rfl) ?_ ?_
  · intro f hf0
    exact below_drewN (Below.refl _ _) 1
  repeat (first
    | (refine Fx.skip_ (by rfl) (fun f w h => h) ?_; simp only [Act.put, List.setIfInBounds_toArray, List.set_cons_zero, List.set_cons_succ])
    | (refine Fx.val_ ?_ (by rfl) ?_ (fun f w h => h) ?_
       rotate_left
       · intro f w' hD hk
         have hb := hD
         have y0_0 : w'.cell? ⟨w.heap.size, 0, none⟩ = some (.int .i64 (rn)) := (step_blk hb (show Blk _ (w.heap.size) 53 #[.int .i64 (rn), .int .i64 (rd)] by repeat' (first | exact Blk.at_ _ (by first | rfl | (simp; done) | (simp; omega)) _ _ | refine Blk.drewN ?_ _ | refine Blk.drew ?_ | refine Blk.alloc ?_ _ | refine Blk.far ?_ (by first | omega | (simp; done) | (simp; omega)) _ | assumption))).cell 0
         have y0_1 : w'.cell? ⟨w.heap.size, 1, none⟩ = some (.int .i64 (rd)) := (step_blk hb (show Blk _ (w.heap.size) 53 #[.int .i64 (rn), .int .i64 (rd)] by repeat' (first | exact Blk.at_ _ (by first | rfl | (simp; done) | (simp; omega)) _ _ | refine Blk.drewN ?_ _ | refine Blk.drew ?_ | refine Blk.alloc ?_ _ | refine Blk.far ?_ (by first | omega | (simp; done) | (simp; omega)) _ | assumption))).cell 1
         have y1_0 : w'.cell? ⟨w.heap.size + 1, 0, none⟩ = some (.int .i64 (gd)) := (step_blk hb (show Blk _ (w.heap.size + 1) 74 #[.int .i64 (gd), .int .i64 (gv)] by repeat' (first | exact Blk.at_ _ (by first | rfl | (simp; done) | (simp; omega)) _ _ | refine Blk.drewN ?_ _ | refine Blk.drew ?_ | refine Blk.alloc ?_ _ | refine Blk.far ?_ (by first | omega | (simp; done) | (simp; omega)) _ | assumption))).cell 0
         have y1_1 : w'.cell? ⟨w.heap.size + 1, 1, none⟩ = some (.int .i64 (gv)) := (step_blk hb (show Blk _ (w.heap.size + 1) 74 #[.int .i64 (gd), .int .i64 (gv)] by repeat' (first | exact Blk.at_ _ (by first | rfl | (simp; done) | (simp; omega)) _ _ | refine Blk.drewN ?_ _ | refine Blk.drew ?_ | refine Blk.alloc ?_ _ | refine Blk.far ?_ (by first | omega | (simp; done) | (simp; omega)) _ | assumption))).cell 1
         clear hk hD hb
         go_simp
         try rfl
       simp only [Act.put, List.setIfInBounds_toArray, List.set_cons_zero, List.set_cons_succ]))
  refine Fx.call_ (.int .i64 ((gd * rd - rn * gv).natAbs : Int)) ?_ ?_ (by rfl) ?_ ?_ ?_
  rotate_left 2
  · intro w'
    go_simp
    refine ⟨?_, ?_⟩ <;> rfl
  · intro f w' hD hk
    exact (abs_in _ _ hlo hhi).mono fun e w'' ⟨he, hw⟩ => ⟨he, hw ▸ hD⟩
  simp only [Act.put, List.setIfInBounds_toArray, List.set_cons_zero, List.set_cons_succ]
  repeat (first
    | (refine Fx.skip_ (by rfl) (fun f w h => h) ?_; simp only [Act.put, List.setIfInBounds_toArray, List.set_cons_zero, List.set_cons_succ])
    | (refine Fx.val_ ?_ (by rfl) ?_ (fun f w h => h) ?_
       rotate_left
       · intro f w' hD hk
         have hb := hD
         have y0_0 : w'.cell? ⟨w.heap.size, 0, none⟩ = some (.int .i64 (rn)) := (step_blk hb (show Blk _ (w.heap.size) 53 #[.int .i64 (rn), .int .i64 (rd)] by repeat' (first | exact Blk.at_ _ (by first | rfl | (simp; done) | (simp; omega)) _ _ | refine Blk.drewN ?_ _ | refine Blk.drew ?_ | refine Blk.alloc ?_ _ | refine Blk.far ?_ (by first | omega | (simp; done) | (simp; omega)) _ | assumption))).cell 0
         have y0_1 : w'.cell? ⟨w.heap.size, 1, none⟩ = some (.int .i64 (rd)) := (step_blk hb (show Blk _ (w.heap.size) 53 #[.int .i64 (rn), .int .i64 (rd)] by repeat' (first | exact Blk.at_ _ (by first | rfl | (simp; done) | (simp; omega)) _ _ | refine Blk.drewN ?_ _ | refine Blk.drew ?_ | refine Blk.alloc ?_ _ | refine Blk.far ?_ (by first | omega | (simp; done) | (simp; omega)) _ | assumption))).cell 1
         have y1_0 : w'.cell? ⟨w.heap.size + 1, 0, none⟩ = some (.int .i64 (gd)) := (step_blk hb (show Blk _ (w.heap.size + 1) 74 #[.int .i64 (gd), .int .i64 (gv)] by repeat' (first | exact Blk.at_ _ (by first | rfl | (simp; done) | (simp; omega)) _ _ | refine Blk.drewN ?_ _ | refine Blk.drew ?_ | refine Blk.alloc ?_ _ | refine Blk.far ?_ (by first | omega | (simp; done) | (simp; omega)) _ | assumption))).cell 0
         have y1_1 : w'.cell? ⟨w.heap.size + 1, 1, none⟩ = some (.int .i64 (gv)) := (step_blk hb (show Blk _ (w.heap.size + 1) 74 #[.int .i64 (gd), .int .i64 (gv)] by repeat' (first | exact Blk.at_ _ (by first | rfl | (simp; done) | (simp; omega)) _ _ | refine Blk.drewN ?_ _ | refine Blk.drew ?_ | refine Blk.alloc ?_ _ | refine Blk.far ?_ (by first | omega | (simp; done) | (simp; omega)) _ | assumption))).cell 1
         clear hk hD hb
         go_simp
         try rfl
       simp only [Act.put, List.setIfInBounds_toArray, List.set_cons_zero, List.set_cons_succ]))
  refine Fx.nil_ ?_
  intro f w1 hall hb
  try clear hall
  have HB1 := Lib.hid (show Below w.heap.size w w1 from step_below hb (by repeat' (first | exact Below.refl _ _ | exact HB0.out | refine below_drewN ?_ _ | refine Below.drew ?_ | refine Below.alloc ?_ (by first | omega | (simp; done) | (simp; omega) | (simp [World.setCell]; omega)) _ | refine Below.setCell ?_ (by first | omega | (simp; done) | (simp; omega)) _ | assumption)))
  have K0_1 := Lib.hid (step_blk hb (show Blk _ (w.heap.size) 53 #[.int .i64 (rn), .int .i64 (rd)] by repeat' (first | exact Blk.at_ _ (by first | rfl | (simp; done) | (simp; omega)) _ _ | refine Blk.drewN ?_ _ | refine Blk.drew ?_ | refine Blk.alloc ?_ _ | refine Blk.far ?_ (by first | omega | (simp; done) | (simp; omega)) _ | assumption)))
  have K1_1 := Lib.hid (step_blk hb (show Blk _ (w.heap.size + 1) 74 #[.int .i64 (gd), .int .i64 (gv)] by repeat' (first | exact Blk.at_ _ (by first | rfl | (simp; done) | (simp; omega)) _ _ | refine Blk.drewN ?_ _ | refine Blk.drew ?_ | refine Blk.alloc ?_ _ | refine Blk.far ?_ (by first | omega | (simp; done) | (simp; omega)) _ | assumption)))
  have hz1 := hb.size
  try simp only [World.size_alloc, World.drewN, World.drew] at hz1
  clear hb
  have l0_1 : w.heap.size < w1.heap.size := K0_1.out.lt
  have z0_0_1 : w1.cell? ⟨w.heap.size, 0, none⟩ = some (.int .i64 (rn)) := K0_1.out.cell 0
  have z0_1_1 : w1.cell? ⟨w.heap.size, 1, none⟩ = some (.int .i64 (rd)) := K0_1.out.cell 1
  have l1_1 : w.heap.size + 1 < w1.heap.size := K1_1.out.lt
  have z1_0_1 : w1.cell? ⟨w.heap.size + 1, 0, none⟩ = some (.int .i64 (gd)) := K1_1.out.cell 0
  have z1_1_1 : w1.cell? ⟨w.heap.size + 1, 1, none⟩ = some (.int .i64 (gv)) := K1_1.out.cell 1
  rw [V4.out]
  go_wp2
  go_ret2
  exact ⟨rfl, by repeat' (first | exact Below.refl _ _ | exact HB1.out | refine below_drewN ?_ _ | refine Below.drew ?_ | refine Below.alloc ?_ (by first | omega | (simp; done) | (simp; omega) | (simp [World.setCell]; omega)) _ | refine Below.setCell ?_ (by first | omega | (simp; done) | (simp; omega)) _ | assumption)⟩

def nearB (rn rd : Int) (g h : Int × Int) : Bool := decide (offF rn rd g.1 g.2 * h.2 < offF rn rd h.1 h.2 * g.2)

theorem nearer_any (rn rd gd gv hd hv : Int) (w : World) (h1 : 0 ≤ rn) (h2 : rn ≤ 1000000000) (h3 : 0 ≤ rd) (h4 : rd ≤ 1000000000)
    (a1 : 0 ≤ gd) (a2 : gd ≤ 500) (b1 : 0 ≤ gv) (b2 : gv ≤ 500) (c1 : 0 ≤ hd) (c2 : hd ≤ 500) (d1 : 0 ≤ hv) (d2 : hv ≤ 500) :
    Calls Try.prog 35 #[.agg #[.int .i64 rn, .int .i64 rd], .agg #[.int .i64 gd, .int .i64 gv], .agg #[.int .i64 hd, .int .i64 hv]] w fun e w' =>
      e = .returned (.bool (nearB rn rd (gd, gv) (hd, hv))) ∧ Below w.heap.size w w' := by
  have m1 := mul_bound h1 h2 b1 b2
  have m2 := mul_bound a1 a2 h3 h4
  have m3 := mul_bound h1 h2 d1 d2
  have m4 := mul_bound c1 c2 h3 h4
  have o1 := off_bound h1 h2 h3 h4 a1 a2 b1 b2
  have o2 := off_bound h1 h2 h3 h4 c1 c2 d1 d2
  have p1 := mul_bound o1.1 o1.2 d1 d2
  have p2 := mul_bound o2.1 o2.2 b1 b2
  obtain ⟨p1a, p1b⟩ := p1
  obtain ⟨p2a, p2b⟩ := p2
  go_enter Try.func35, Try.ntmps35
  go_wp2_with fail
  refine (off_any rn rd gd gv _ (by omega) (by omega) (by omega) (by omega)).mono ?_
  rintro e w1 ⟨rfl, hb⟩
  have HB1 := Lib.hid (show Below w.heap.size w w1 from step_below hb (by repeat' (first | exact Below.refl _ _ | exact HB0.out | refine below_drewN ?_ _ | refine Below.drew ?_ | refine Below.alloc ?_ (by first | omega | (simp; done) | (simp; omega) | (simp [World.setCell]; omega)) _ | refine Below.setCell ?_ (by first | omega | (simp; done) | (simp; omega)) _ | assumption)))
  have K0_1 := Lib.hid (step_blk hb (show Blk _ (w.heap.size) 53 #[.int .i64 (rn), .int .i64 (rd)] by repeat' (first | exact Blk.at_ _ (by first | rfl | (simp; done) | (simp; omega)) _ _ | refine Blk.drewN ?_ _ | refine Blk.drew ?_ | refine Blk.alloc ?_ _ | refine Blk.far ?_ (by first | omega | (simp; done) | (simp; omega)) _ | assumption)))
  have K1_1 := Lib.hid (step_blk hb (show Blk _ (w.heap.size + 1) 74 #[.int .i64 (gd), .int .i64 (gv)] by repeat' (first | exact Blk.at_ _ (by first | rfl | (simp; done) | (simp; omega)) _ _ | refine Blk.drewN ?_ _ | refine Blk.drew ?_ | refine Blk.alloc ?_ _ | refine Blk.far ?_ (by first | omega | (simp; done) | (simp; omega)) _ | assumption)))
  have K2_1 := Lib.hid (step_blk hb (show Blk _ (w.heap.size + 2) 74 #[.int .i64 (hd), .int .i64 (hv)] by repeat' (first | exact Blk.at_ _ (by first | rfl | (simp; done) | (simp; omega)) _ _ | refine Blk.drewN ?_ _ | refine Blk.drew ?_ | refine Blk.alloc ?_ _ | refine Blk.far ?_ (by first | omega | (simp; done) | (simp; omega)) _ | assumption)))
  have hz1 := hb.size
  try simp only [World.size_alloc, World.drewN, World.drew] at hz1
  clear hb
  have l0_1 : w.heap.size < w1.heap.size := K0_1.out.lt
  have z0_0_1 : w1.cell? ⟨w.heap.size, 0, none⟩ = some (.int .i64 (rn)) := K0_1.out.cell 0
  have z0_1_1 : w1.cell? ⟨w.heap.size, 1, none⟩ = some (.int .i64 (rd)) := K0_1.out.cell 1
  have l1_1 : w.heap.size + 1 < w1.heap.size := K1_1.out.lt
  have z1_0_1 : w1.cell? ⟨w.heap.size + 1, 0, none⟩ = some (.int .i64 (gd)) := K1_1.out.cell 0
  have z1_1_1 : w1.cell? ⟨w.heap.size + 1, 1, none⟩ = some (.int .i64 (gv)) := K1_1.out.cell 1
  have l2_1 : w.heap.size + 2 < w1.heap.size := K2_1.out.lt
  have z2_0_1 : w1.cell? ⟨w.heap.size + 2, 0, none⟩ = some (.int .i64 (hd)) := K2_1.out.cell 0
  have z2_1_1 : w1.cell? ⟨w.heap.size + 2, 1, none⟩ = some (.int .i64 (hv)) := K2_1.out.cell 1
  go_wp2_with fail
  refine (off_any rn rd hd hv _ (by omega) (by omega) (by omega) (by omega)).mono ?_
  rintro e w2 ⟨rfl, hb⟩
  have HB2 := Lib.hid (show Below w.heap.size w w2 from step_below hb (by repeat' (first | exact Below.refl _ _ | exact HB1.out | refine below_drewN ?_ _ | refine Below.drew ?_ | refine Below.alloc ?_ (by first | omega | (simp; done) | (simp; omega) | (simp [World.setCell]; omega)) _ | refine Below.setCell ?_ (by first | omega | (simp; done) | (simp; omega)) _ | assumption)))
  have K0_2 := Lib.hid (step_blk hb (show Blk _ (w.heap.size) 53 #[.int .i64 (rn), .int .i64 (rd)] by repeat' (first | exact K0_1.out | exact K1_1.out | exact K2_1.out | exact Blk.at_ _ (by first | rfl | (simp; done) | (simp; omega)) _ _ | refine Blk.drewN ?_ _ | refine Blk.drew ?_ | refine Blk.alloc ?_ _ | refine Blk.far ?_ (by first | omega | (simp; done) | (simp; omega)) _ | assumption)))
  have K1_2 := Lib.hid (step_blk hb (show Blk _ (w.heap.size + 1) 74 #[.int .i64 (gd), .int .i64 (gv)] by repeat' (first | exact K0_1.out | exact K1_1.out | exact K2_1.out | exact Blk.at_ _ (by first | rfl | (simp; done) | (simp; omega)) _ _ | refine Blk.drewN ?_ _ | refine Blk.drew ?_ | refine Blk.alloc ?_ _ | refine Blk.far ?_ (by first | omega | (simp; done) | (simp; omega)) _ | assumption)))
  have K2_2 := Lib.hid (step_blk hb (show Blk _ (w.heap.size + 2) 74 #[.int .i64 (hd), .int .i64 (hv)] by repeat' (first | exact K0_1.out | exact K1_1.out | exact K2_1.out | exact Blk.at_ _ (by first | rfl | (simp; done) | (simp; omega)) _ _ | refine Blk.drewN ?_ _ | refine Blk.drew ?_ | refine Blk.alloc ?_ _ | refine Blk.far ?_ (by first | omega | (simp; done) | (simp; omega)) _ | assumption)))
  have hz2 := hb.size
  try simp only [World.size_alloc, World.drewN, World.drew] at hz2
  clear hb K0_1 K1_1 K2_1 z0_0_1 z0_1_1 l0_1 z1_0_1 z1_1_1 l1_1 z2_0_1 z2_1_1 l2_1
  have l0_2 : w.heap.size < w2.heap.size := K0_2.out.lt
  have z0_0_2 : w2.cell? ⟨w.heap.size, 0, none⟩ = some (.int .i64 (rn)) := K0_2.out.cell 0
  have z0_1_2 : w2.cell? ⟨w.heap.size, 1, none⟩ = some (.int .i64 (rd)) := K0_2.out.cell 1
  have l1_2 : w.heap.size + 1 < w2.heap.size := K1_2.out.lt
  have z1_0_2 : w2.cell? ⟨w.heap.size + 1, 0, none⟩ = some (.int .i64 (gd)) := K1_2.out.cell 0
  have z1_1_2 : w2.cell? ⟨w.heap.size + 1, 1, none⟩ = some (.int .i64 (gv)) := K1_2.out.cell 1
  have l2_2 : w.heap.size + 2 < w2.heap.size := K2_2.out.lt
  have z2_0_2 : w2.cell? ⟨w.heap.size + 2, 0, none⟩ = some (.int .i64 (hd)) := K2_2.out.cell 0
  have z2_1_2 : w2.cell? ⟨w.heap.size + 2, 1, none⟩ = some (.int .i64 (hv)) := K2_2.out.cell 1
  go_wp2
  go_ret
  exact ⟨rfl, by repeat' (first | exact Below.refl _ _ | exact HB2.out | refine below_drewN ?_ _ | refine Below.drew ?_ | refine Below.alloc ?_ (by first | omega | (simp; done) | (simp; omega) | (simp [World.setCell]; omega)) _ | refine Below.setCell ?_ (by first | omega | (simp; done) | (simp; omega)) _ | assumption)⟩

theorem isteeth_any (n : Int) (t : Bool) (h : withinB n 1 500 = t) (w : World) : Calls Try.prog 70 #[.int .i64 n] w fun e w' => e = .returned (.bool t) ∧ w = w' := by
  go_enter Try.func70, Try.ntmps70
  go_wp2_with (go_at_call 50; refine (withinref_is _ _ _ _ h _).mono ?_; rintro e w' ⟨rfl, rfl⟩)
  go_ret
  exact ⟨rfl, rfl⟩


/-- The reference's search: by sums, then by the driver. -/
def rstepF (rn rd lo hi : Int) (o : Int × Int) (g : Int × Int) : Int × Int := if withinB g.2 lo hi && nearB rn rd g o then g else o
def rrowF (rn rd lo hi : Int) (s : Int) (m : Nat) (o : Int × Int) : Int × Int := (List.range m).foldl (fun o (i : Nat) => rstepF rn rd lo hi o (lo + (i : Int), s - (lo + (i : Int)))) o
def rbestF (rn rd lo hi : Int) (m k : Nat) : Int × Int := (List.range k).foldl (fun o (j : Nat) => rrowF rn rd lo hi (2 * lo + (j : Int)) m o) (lo, lo)
theorem rrowF_succ (rn rd lo hi s : Int) (m : Nat) (o : Int × Int) : rrowF rn rd lo hi s (m + 1) o = rstepF rn rd lo hi (rrowF rn rd lo hi s m o) (lo + (m : Int), s - (lo + (m : Int))) := by
  unfold rrowF; rw [List.range_succ, List.foldl_append]; rfl
theorem rbestF_succ (rn rd lo hi : Int) (m k : Nat) : rbestF rn rd lo hi m (k + 1) = rrowF rn rd lo hi (2 * lo + (k : Int)) m (rbestF rn rd lo hi m k) := by
  unfold rbestF; rw [List.range_succ, List.foldl_append]; rfl

theorem nearer_is (rn rd gd gv : Int) (h : Int × Int) (t : Bool) (ht : nearB rn rd (gd, gv) h = t) (w : World) (h1 : 0 ≤ rn) (h2 : rn ≤ 1000000000) (h3 : 0 ≤ rd) (h4 : rd ≤ 1000000000)
    (a1 : 0 ≤ gd) (a2 : gd ≤ 500) (b1 : 0 ≤ gv) (b2 : gv ≤ 500) (c1 : 0 ≤ h.1) (c2 : h.1 ≤ 500) (d1 : 0 ≤ h.2) (d2 : h.2 ≤ 500) :
    Calls Try.prog 35 #[.agg #[.int .i64 rn, .int .i64 rd], .agg #[.int .i64 gd, .int .i64 gv], .agg #[.int .i64 h.1, .int .i64 h.2]] w fun e w' =>
      e = .returned (.bool t) ∧ Below w.heap.size w w' := ht ▸ nearer_any rn rd gd gv h.1 h.2 w h1 h2 h3 h4 a1 a2 b1 b2 c1 c2 d1 d2


end Go.Proofs.Ytoiconebcmneiab

end
