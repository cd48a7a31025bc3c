import Derived.Deep.CutBlock
import Derived.Test.YtcggceincmljdaaQ6
import Derived.Test.YtcggceincmljdaaQ8

section
/- The maps that a mirror and an instrument make. -/
namespace Go.Proofs.Ytcggceincmljdaa
open Go Go.RowKit

theorem info_int5 : (Try.prog.info? 3).map (fun i => (i.zero, i.size, i.bytes)) = some (some (.int .i64 0), 1, 8) := by kernel_rfl
theorem snoci5_run (B : Nat) (v : Value) (k : Nat) (xs : List Value) (z : Int) (w : World) (ho : w.ownsRow B 3 1 v k xs) (hB : B ≤ w.heap.size) (hk : k ≤ 10000000) :
    ∃ v' W2, (Builtin.append_ #[22, 22] 22 #[v, .slice (some ⟨w.heap.size, 0, none⟩) 1 1]).run Try.prog (w.alloc (.cells #[.int .i64 z] 3)) = .ok v' W2 ∧ W2.ownsRow B 3 1 v' (k + 1) (xs ++ [.int .i64 z]) ∧ Below B w W2 := by
  obtain ⟨i0, hi0, hz0, hz1, hz2⟩ := info_parts info_int5
  have hbW : Below B w (w.alloc (.cells #[.int .i64 z] 3)) := (Below.refl _ _).alloc hB _
  obtain ⟨v', W2, hrun, o2', hg2, -⟩ := run_append_any (P := Try.prog) (w.alloc (.cells #[.int .i64 z] 3)) B 22 22 3 i0 _ 1 8 Try.underlying22 hi0 hz0 hz1 hz2 rfl (by omega) v k _ (ho.alloc _) (w.alloc (.cells #[.int .i64 z] 3)).heap.size (some ⟨w.heap.size, 0, none⟩) 1 1 [.int .i64 z] (Blk.reads (Blk.new _ _ _) rfl) (by simp [Value.oneCell']) (by unfold maxLen; omega) (by first | omega | (simp; omega)) (by first | omega | (simp; omega))
  exact ⟨v', W2, hrun, o2', hbW.grown hg2 (Nat.le_trans hB hbW.size) (fun g hg => (own_lt ho hg).1)⟩
/-- Rows of their own. -/
def RowsAt (B n : Nat) (ts : List TRow) (w : World) : Prop := ∀ r ∈ ts, (r.n = n ∧ r.xs.length = n ∧ ∀ z ∈ r.xs, -100000 ≤ z ∧ z ≤ 100000) ∧ w.ownsRow B 3 1 r.val r.n (r.xs.map (.int .i64))
section
variable {B n : Nat} {ts : List TRow} {w w' : World}
theorem RowsAt.below (h : RowsAt B n ts w) (hb : Below w.heap.size w w') : RowsAt B n ts w' := fun r hr => ⟨(h r hr).1, own_below (h r hr).2 hb (Nat.le_refl _)⟩
end
/-- A row is put behind the rows of a list that lies in a field. -/
theorem snocl5_run (B : Nat) (v : Value) (n : Nat) (ts : List TRow) (r : TRow) (w : World) (ho : w.ownsRow B 22 1 v ts.length (ts.map TRow.val)) (hrs : RowsAt B n ts w) (hr : RowsAt B n [r] w) (hB : B ≤ w.heap.size) (hk : ts.length ≤ 100000) :
    ∃ v' W2, (Builtin.append_ #[43, 43] 43 #[v, .slice (some ⟨w.heap.size, 0, none⟩) 1 1]).run Try.prog (w.alloc (.cells #[r.val] 22)) = .ok v' W2 ∧ W2.ownsRow B 22 1 v' (ts ++ [r]).length ((ts ++ [r]).map TRow.val) ∧ RowsAt B n (ts ++ [r]) W2 ∧ Below B w W2 := by
  obtain ⟨i0, hi0, hz0, hz1, hz2⟩ := info_parts info_ints
  have hbW : Below B w (w.alloc (.cells #[r.val] 22)) := (Below.refl _ _).alloc hB _
  have hoW := ho.alloc (.cells #[r.val] 22)
  obtain ⟨v', W2, hrun, o2', hg2, hrow⟩ := run_append_any (P := Try.prog) (w.alloc (.cells #[r.val] 22)) B 43 43 22 i0 _ 1 24 Try.underlying43 hi0 hz0 hz1 hz2 rfl (by omega) v _ _ hoW (w.alloc (.cells #[r.val] 22)).heap.size (some ⟨w.heap.size, 0, none⟩) 1 1 [r.val] (Blk.reads (Blk.new _ _ _) rfl) (by simp [Value.oneCell', TRow.val]) (by unfold maxLen; omega) (by first | omega | (simp; omega)) (by first | omega | (simp; omega))
  refine ⟨v', W2, hrun, by rw [List.length_append, List.map_append]; exact o2', ?_, hbW.grown hg2 (Nat.le_trans hB hbW.size) (fun g hg => (own_lt ho hg).1)⟩
  intro r' hr'
  rcases List.mem_append.1 hr' with h | h
  · exact ⟨(hrs r' h).1, own_apart ((hrs r' h).2.alloc _) hoW (by decide) hg2⟩
  · exact ⟨(hr r' h).1, own_apart ((hr r' h).2.alloc _) hoW (by decide) hg2⟩

theorem own_low {w : World} {B size n : Nat} {e : TypeId} {v : Value} {xs : List Value} (h : w.ownsRow B e size v n xs) {p : Addr} (hp : p.block < B) (u : Value) : (w.setCell p u).ownsRow B e size v n xs :=
  own_set h (fun e' => by have := (own_lt h e').1; omega) u
theorem RowsAt.low {B n : Nat} {ts : List TRow} {w : World} (h : RowsAt B n ts w) {p : Addr} (hp : p.block < B) (u : Value) : RowsAt B n ts (w.setCell p u) := fun r hr => ⟨(h r hr).1, own_low (h r hr).2 hp u⟩
theorem readsT_own {B n k c : Nat} {A : Option Addr} {ts : List TRow} {w : World} (h : w.ownsRow B 22 1 (.slice A k c) k (ts.map TRow.val)) (hr : RowsAt B n ts w) : ReadsT w w.heap.size A k ts :=
  ⟨own_reads2 h, fun r hh => ⟨own_cap (hr r hh).2, own_reads2 (hr r hh).2⟩⟩
theorem Tch.low {X : Nat → Prop} {w w' w'' : World} (h : Tch X w w') (k : Below w.heap.size w' w'') : Tch X w w'' := ⟨k.os.trans h.os, k.tape.trans h.tape, k.output.trans h.output, Nat.le_trans h.size k.size, fun i hi hx => (k.block i hi).trans (h.block i hi hx)⟩
theorem reads_touched {X : Nat → Prop} {w w' : World} {B size n : Nat} {A : Option Addr} {xs : List Value} (h : Reads w B size A n xs) (hX : ∀ q, X q → B ≤ q) (hB : B ≤ w.heap.size) (ht : Tch X w w') : Reads w' B size A n xs := h.below (ht.below hX hB)
theorem mod5_any (a b : Int) (w : World) (h1 : -9223372036854775808 ≤ a) (h2 : a ≤ 9223372036854775807) (h3 : 1 ≤ b) (h4 : b ≤ 9223372036854775807) :
    Calls Try.prog 15 #[.int .i64 a, .int .i64 b] w fun e w' => e = .returned (.int .i64 (a % b)) ∧ w = w' := by
  have b0 : ¬ b = 0 := by omega
  have hlt := tmod_lt a b b0
  have hin := tmod_in a b (by omega) h4 b0
  have he : a % b = if a.tmod b < 0 then a.tmod b + b else a.tmod b := by
    rw [Int.tmod_eq_emod]
    have := Int.emod_nonneg a b0
    have := Int.emod_lt_of_pos a (show 0 < b by omega)
    by_cases h : 0 ≤ a ∨ b ∣ a
    · rw [if_pos h, if_neg (by omega)]
      omega
    · rw [if_neg h]
      have hn : (b.natAbs : Int) = b := by omega
      rw [hn, if_pos (by omega)]
      omega
  have HE := Lib.hid he
  clear he
  obtain ⟨r, hr⟩ : ∃ r, a.tmod b = r := ⟨_, rfl⟩
  rw [hr] at hlt hin
  have hw := IntWalk.i64_in r ⟨by omega, by omega⟩
  by_cases hneg : r < 0
  · have hw2 := IntWalk.i64_in (r + b) ⟨by omega, by omega⟩
    go_enter Try.func15, Try.ntmps15
    go_wp2
    go_ret
    exact ⟨ret_int (by rw [HE.out, hr, if_pos (by omega)]), rfl⟩
  · go_enter Try.func15, Try.ntmps15
    go_wp2
    go_ret
    exact ⟨ret_int (by rw [HE.out, hr, if_neg (by omega)]), rfl⟩
/-- What Maps returns. -/
def MapsPost (w : World) (e : Ending) (w' : World) : Prop :=
  (∃ v b, e = .returned (.tuple #[v, .bool b]) ∧ (b = false → v = .agg #[.int .i64 0, .slice none 0 0]) ∧ (b = true → ∃ (n k : Nat) (A : Option Addr) (c : Nat) (t : List TRow), v = .agg #[.int .i64 n, .slice A k c] ∧ TurnOk n k t ∧ ReadsT w' w'.heap.size A k t)) ∧ Below w.heap.size w w'
theorem maps_no {w' : World} : (∃ (v : Value) (b : Bool), Ending.returned (.tuple #[.agg #[.int .i64 0, .slice none 0 0], .bool false]) = .returned (.tuple #[v, .bool b]) ∧ (b = false → v = .agg #[.int .i64 0, .slice none 0 0]) ∧ (b = true → ∃ (n k : Nat) (A : Option Addr) (c : Nat) (t : List TRow), v = .agg #[.int .i64 n, .slice A k c] ∧ TurnOk n k t ∧ ReadsT w' w'.heap.size A k t)) :=
  ⟨_, false, rfl, fun _ => rfl, fun h => by cases h⟩
theorem maps_yes {w' : World} {n k : Nat} {A : Option Addr} {c : Nat} {t : List TRow} (h : TurnOk n k t) (hr : ReadsT w' w'.heap.size A k t) : (∃ (v : Value) (b : Bool), Ending.returned (.tuple #[.agg #[.int .i64 n, .slice A k c], .bool true]) = .returned (.tuple #[v, .bool b]) ∧ (b = false → v = .agg #[.int .i64 0, .slice none 0 0]) ∧ (b = true → ∃ (n k : Nat) (A : Option Addr) (c : Nat) (t : List TRow), v = .agg #[.int .i64 n, .slice A k c] ∧ TurnOk n k t ∧ ReadsT w' w'.heap.size A k t)) :=
  ⟨_, true, rfl, (fun h => by cases h), fun _ => ⟨n, k, A, c, t, rfl, h, hr⟩⟩
set_option maxRecDepth 100000 in
set_option maxHeartbeats 8000000 in
theorem maps_any (A1 : Option Addr) (n1 c1 : Nat) (hs : List Int) (A2 : Option Addr) (n2 c2 : Nat) (is : List Int) (T : Int) (w : World) (hx1 : Reads w w.heap.size 1 A1 n1 (hs.map (.int .i64))) (hx2 : Reads w w.heap.size 1 A2 n2 (is.map (.int .i64))) :
    Calls Try.prog 11 #[.agg #[.slice A1 n1 c1, .slice A2 n2 c2, .int .i64 T]] w (MapsPost w) := by
  have h1 := hx1.ilen
  have h2 := hx2.ilen
  obtain ⟨t1, ht1⟩ : ∃ t, withinB (n1 : Int) 1 24 = t := ⟨_, rfl⟩
  obtain ⟨t2, ht2⟩ : ∃ t, withinB T 1 12 = t := ⟨_, rfl⟩
  have HT1 := Lib.hid ht1
  have HT2 := Lib.hid ht2
  have HX1 := Lib.hid hx1
  have HX2 := Lib.hid hx2
  clear ht1 ht2 hx1 hx2
  go_enter Try.func11, Try.ntmps11
  go_wp2_with fail
  generalize hwn : ((w.alloc (.cells #[.slice A1 n1 c1, .slice A2 n2 c2, .int .i64 (T)] 42)).alloc (.cells #[.int .i64 (0), .slice none 0 0] 45)) = w1
  have hbn : Below w.heap.size w w1 := by rw [← hwn]; repeat' (first | exact Below.refl _ _ | refine below_drewN ?_ _ | refine Below.drew ?_ | refine Below.alloc ?_ (by first | omega | (simp; done) | (simp; omega) | (simp [World.setCell]; omega)) _ | refine Below.setCell ?_ (by first | omega | (simp; done) | (simp; omega)) _)
  have HB1 := Lib.hid (show Below w.heap.size w w1 from hbn)
  have K0_1 := Lib.hid (show Blk w1 (w.heap.size) 42 #[.slice A1 n1 c1, .slice A2 n2 c2, .int .i64 (T)] by rw [← hwn]; repeat' (first | exact Blk.at_ _ (by first | rfl | (simp; done) | (simp; omega)) _ _ | refine Blk.drewN ?_ _ | refine Blk.drew ?_ | refine Blk.alloc ?_ _ | refine Blk.far ?_ (by first | omega | (simp; done) | (simp; omega)) _ | assumption))
  have K1_1 := Lib.hid (show Blk w1 (w.heap.size + 1) 45 #[.int .i64 (0), .slice none 0 0] by rw [← hwn]; repeat' (first | exact Blk.at_ _ (by first | rfl | (simp; done) | (simp; omega)) _ _ | refine Blk.drewN ?_ _ | refine Blk.drew ?_ | refine Blk.alloc ?_ _ | refine Blk.far ?_ (by first | omega | (simp; done) | (simp; omega)) _ | assumption))
  have HN1 := Lib.hid hbn
  have hz1 := hbn.size
  clear hwn hbn
  have l0_1 : w.heap.size < w1.heap.size := K0_1.out.lt
  have z0_0_1 : w1.cell? ⟨w.heap.size, 0, none⟩ = some (.slice A1 n1 c1) := K0_1.out.cell 0
  have z0_1_1 : w1.cell? ⟨w.heap.size, 1, none⟩ = some (.slice A2 n2 c2) := K0_1.out.cell 1
  have z0_2_1 : w1.cell? ⟨w.heap.size, 2, none⟩ = some (.int .i64 (T)) := K0_1.out.cell 2
  have l1_1 : w.heap.size + 1 < w1.heap.size := K1_1.out.lt
  have z1_0_1 : w1.cell? ⟨w.heap.size + 1, 0, none⟩ = some (.int .i64 (0)) := K1_1.out.cell 0
  have z1_1_1 : w1.cell? ⟨w.heap.size + 1, 1, none⟩ = some (.slice none 0 0) := K1_1.out.cell 1
  have zf1_0 := K1_1.out.frozen 0
  have zf1_1 := K1_1.out.frozen 1
  have hsz1 := l1_1
  refine (withinref_is _ _ _ t1 HT1.out _).mono ?_
  rintro e w' ⟨rfl, rfl⟩
  cases t1 with
  | false =>
    go_wp2
    exact bodyPost_ret (v := .tuple #[.agg #[.int .i64 0, .slice none 0 0], .bool false]) (by simp [results, Try.results11, go_sem, z1_0_1, z1_1_1, l1_1]) rfl ⟨maps_no, by repeat' (first | exact Below.refl _ _ | exact HB1.out | refine below_drewN ?_ _ | refine Below.drew ?_ | refine Below.alloc ?_ (by first | omega | (simp; done) | (simp; omega) | (simp [World.setCell]; omega)) _ | refine Below.setCell ?_ (by first | omega | (simp; done) | (simp; omega)) _ | assumption)⟩
  | true =>
  have hn1 := within_bounds HT1.out
  by_cases hn12 : n2 = n1
  rotate_left
  · have e1 : ((n2 : Int) != (n1 : Int)) = true := by simp; omega
    clear hn12
    go_wp2
    exact bodyPost_ret (v := .tuple #[.agg #[.int .i64 0, .slice none 0 0], .bool false]) (by simp [results, Try.results11, go_sem, z1_0_1, z1_1_1, l1_1]) rfl ⟨maps_no, by repeat' (first | exact Below.refl _ _ | exact HB1.out | refine below_drewN ?_ _ | refine Below.drew ?_ | refine Below.alloc ?_ (by first | omega | (simp; done) | (simp; omega) | (simp [World.setCell]; omega)) _ | refine Below.setCell ?_ (by first | omega | (simp; done) | (simp; omega)) _ | assumption)⟩
  subst hn12
  have e1 : ((n2 : Int) != (n2 : Int)) = false := by simp
  go_wp2_with fail
  refine (withinref_is _ _ _ t2 HT2.out _).mono ?_
  rintro e w' ⟨rfl, rfl⟩
  cases t2 with
  | false =>
    go_wp2
    exact bodyPost_ret (v := .tuple #[.agg #[.int .i64 0, .slice none 0 0], .bool false]) (by simp [results, Try.results11, go_sem, z1_0_1, z1_1_1, l1_1]) rfl ⟨maps_no, by repeat' (first | exact Below.refl _ _ | exact HB1.out | refine below_drewN ?_ _ | refine Below.drew ?_ | refine Below.alloc ?_ (by first | omega | (simp; done) | (simp; omega) | (simp [World.setCell]; omega)) _ | refine Below.setCell ?_ (by first | omega | (simp; done) | (simp; omega)) _ | assumption)⟩
  | true =>
  have hkb := within_bounds HT2.out
  obtain ⟨k, rfl⟩ : ∃ k : Nat, T = (k : Int) := ⟨T.toNat, by omega⟩
  have hk0 : ((k : Int) == 0) = false := by simp; omega
  obtain ⟨r, hr⟩ : ∃ r, n2 % k = r := ⟨_, rfl⟩
  have hrn : r ≤ n2 := by rw [← hr]; exact Nat.mod_le _ _
  have hmod : (n2 : Int).tmod (k : Int) = (r : Int) := by rw [Int.tmod_eq_emod_of_nonneg (by omega), ← hr]; exact (Int.natCast_emod _ _).symm
  have hrw := IntWalk.i64_in (r : Int) ⟨by omega, by omega⟩
  by_cases hr0 : r = 0
  rotate_left
  · have e2 : ((r : Int) != 0) = true := by simp; omega
    clear hr hr0
    go_wp2
    exact bodyPost_ret (v := .tuple #[.agg #[.int .i64 0, .slice none 0 0], .bool false]) (by simp [results, Try.results11, go_sem, z1_0_1, z1_1_1, l1_1]) rfl ⟨maps_no, by repeat' (first | exact Below.refl _ _ | exact HB1.out | refine below_drewN ?_ _ | refine Below.drew ?_ | refine Below.alloc ?_ (by first | omega | (simp; done) | (simp; omega) | (simp [World.setCell]; omega)) _ | refine Below.setCell ?_ (by first | omega | (simp; done) | (simp; omega)) _ | assumption)⟩
  subst hr0
  have e2 : (((0 : Nat) : Int) != 0) = false := by simp
  obtain ⟨s, hs'⟩ : ∃ s, n2 / k = s := ⟨_, rfl⟩
  have hsk : k * s = n2 := by rw [← hs']; exact Nat.mul_div_cancel' (Nat.dvd_of_mod_eq_zero hr)
  have hsq : (n2 : Int).tdiv k = (s : Int) := by rw [Int.tdiv_eq_ediv_of_nonneg (by omega)]; rw [← hs']; exact (Int.natCast_ediv n2 k).symm
  have hsb : s ≤ 24 := by rw [← hs']; exact Nat.le_trans (Nat.div_le_self _ _) (by omega)
  have hsw := IntWalk.i64_in (s : Int) ⟨by omega, by omega⟩
  have HSK := Lib.hid hsk
  have HDIV := Lib.hid hr
  clear hs' hsk hr hrn
  go_wp2_with fail
  generalize hwn : (w1.alloc (.cells #[.int .i64 ((n2 : Int)), .slice none 0 0] 45)) = w2
  have hbn : Below w1.heap.size w1 w2 := by rw [← hwn]; repeat' (first | exact Below.refl _ _ | refine below_drewN ?_ _ | refine Below.drew ?_ | refine Below.alloc ?_ (by first | omega | (simp; done) | (simp; omega) | (simp [World.setCell]; omega)) _ | refine Below.setCell ?_ (by first | omega | (simp; done) | (simp; omega)) _)
  have HB2 := Lib.hid (show Below w.heap.size w w2 from HB1.out.trans (hbn.mono HB1.out.size))
  have K0_2 := Lib.hid (step_blk hbn K0_1.out)
  have K1_2 := Lib.hid (step_blk hbn K1_1.out)
  have K2_2 := Lib.hid (show Blk w2 (w1.heap.size) 45 #[.int .i64 ((n2 : Int)), .slice none 0 0] by rw [← hwn]; repeat' (first | exact Blk.at_ _ (by first | rfl | (simp; done) | (simp; omega)) _ _ | refine Blk.drewN ?_ _ | refine Blk.drew ?_ | refine Blk.alloc ?_ _ | refine Blk.far ?_ (by first | omega | (simp; done) | (simp; omega)) _ | assumption))
  have HN2 := Lib.hid hbn
  have hz2 := hbn.size
  clear hwn hbn K0_1 l0_1 z0_0_1 z0_1_1 z0_2_1 K1_1 l1_1 z1_0_1 z1_1_1
  have l0_2 : w.heap.size < w2.heap.size := K0_2.out.lt
  have z0_0_2 : w2.cell? ⟨w.heap.size, 0, none⟩ = some (.slice A1 n2 c1) := K0_2.out.cell 0
  have z0_1_2 : w2.cell? ⟨w.heap.size, 1, none⟩ = some (.slice A2 n2 c2) := K0_2.out.cell 1
  have z0_2_2 : w2.cell? ⟨w.heap.size, 2, none⟩ = some (.int .i64 ((k : Int))) := K0_2.out.cell 2
  have l1_2 : w.heap.size + 1 < w2.heap.size := K1_2.out.lt
  have z1_0_2 : w2.cell? ⟨w.heap.size + 1, 0, none⟩ = some (.int .i64 (0)) := K1_2.out.cell 0
  have z1_1_2 : w2.cell? ⟨w.heap.size + 1, 1, none⟩ = some (.slice none 0 0) := K1_2.out.cell 1
  have l2_2 : w1.heap.size < w2.heap.size := K2_2.out.lt
  have z2_0_2 : w2.cell? ⟨w1.heap.size, 0, none⟩ = some (.int .i64 ((n2 : Int))) := K2_2.out.cell 0
  have z2_1_2 : w2.cell? ⟨w1.heap.size, 1, none⟩ = some (.slice none 0 0) := K2_2.out.cell 1
  have g1 := ((HX1.out.below HB1.out).more HB1.out.size).below HN2.out
  have g2 := ((HX2.out.below HB1.out).more HB1.out.size).below HN2.out
  have hsz2 := l2_2
  have RX1 := Lib.hid g1
  have RX2 := Lib.hid g2
  have KD := K0_2
  have KR := K1_2
  have KM := K2_2
  have hw2 := HB2.out.size
  clear g1 g2 HX1 HX2
  have HK2 := HB2
  go_loopw [6] (fun x wr => ∃ (v : Value) (ts : List TRow) (a : Nat), ts.length = a ∧ a ≤ k ∧ x = .int .i64 a ∧ Tch (fun q => q = w1.heap.size) w2 wr ∧ Blk wr w1.heap.size 45 #[.int .i64 n2, v] ∧ wr.ownsRow w2.heap.size 22 1 v ts.length (ts.map TRow.val) ∧ RowsAt w2.heap.size n2 ts wr ∧ (0 < a → ∀ z ∈ hs, -50000 ≤ z ∧ z ≤ 50000)) (fun x _ => k - (intOf x).toNat)
  case atStart => exact ⟨.slice none 0 0, [], 0, rfl, by omega, rfl, Tch.refl _ _, KM.out, World.ownsRow_nil _ _ _ _, (show RowsAt w2.heap.size n2 [] w2 from fun r hr => by cases hr), fun h => absurd h (by omega)⟩
  case round =>
    obtain ⟨v, ts, a, htl, ha, rfl, htc, hkm, ho, hrs, hall⟩ := hrel
    obtain ⟨w3, hnm⟩ : ∃ z : World, z = wr := ⟨_, rfl⟩
    subst hnm
    have hkd : Blk w3 w.heap.size 42 #[.slice A1 n2 c1, .slice A2 n2 c2, .int .i64 k] := htc.blk KD.out (by show ¬ w.heap.size = w1.heap.size; omega)
    have hkr : Blk w3 (w.heap.size + 1) 45 #[.int .i64 0, .slice none 0 0] := htc.blk KR.out (by show ¬ w.heap.size + 1 = w1.heap.size; omega)
    have hbw : Below w.heap.size w w3 := HB2.out.trans (htc.below (fun q hq => by rw [hq]; omega) (by omega))
    have hw3 := htc.size
    have HTC := Lib.hid htc
    have HO := Lib.hid ho
    have HRS := Lib.hid hrs
    have HALL := Lib.hid hall
    have HTL := Lib.hid htl
    clear htc ho hrs hall htl
    by_cases hlt : a < k
    rotate_left
    · obtain rfl : k = a := by omega
      obtain ⟨A', c', rfl, -⟩ := own_reads HO.out
      have HB3 := Lib.hid hbw
      have K0_3 := Lib.hid (show Blk w3 (w.heap.size) 42 #[.slice A1 n2 c1, .slice A2 n2 c2, .int .i64 ((k : Int))] from hkd)
      have K1_3 := Lib.hid (show Blk w3 (w.heap.size + 1) 45 #[.int .i64 (0), .slice none 0 0] from hkr)
      have K2_3 := Lib.hid (show Blk w3 (w1.heap.size) 45 #[.int .i64 ((n2 : Int)), .slice A' ts.length c'] from hkm)
      clear hbw hkd hkr hkm
      have l0_3 : w.heap.size < w3.heap.size := K0_3.out.lt
      have z0_0_3 : w3.cell? ⟨w.heap.size, 0, none⟩ = some (.slice A1 n2 c1) := K0_3.out.cell 0
      have z0_1_3 : w3.cell? ⟨w.heap.size, 1, none⟩ = some (.slice A2 n2 c2) := K0_3.out.cell 1
      have z0_2_3 : w3.cell? ⟨w.heap.size, 2, none⟩ = some (.int .i64 ((k : Int))) := K0_3.out.cell 2
      have l1_3 : w.heap.size + 1 < w3.heap.size := K1_3.out.lt
      have z1_0_3 : w3.cell? ⟨w.heap.size + 1, 0, none⟩ = some (.int .i64 (0)) := K1_3.out.cell 0
      have z1_1_3 : w3.cell? ⟨w.heap.size + 1, 1, none⟩ = some (.slice none 0 0) := K1_3.out.cell 1
      have l2_3 : w1.heap.size < w3.heap.size := K2_3.out.lt
      have z2_0_3 : w3.cell? ⟨w1.heap.size, 0, none⟩ = some (.int .i64 ((n2 : Int))) := K2_3.out.cell 0
      have z2_1_3 : w3.cell? ⟨w1.heap.size, 1, none⟩ = some (.slice A' ts.length c') := K2_3.out.cell 1
      have zf1_0 := K1_3.out.frozen 0
      have zf1_1 := K1_3.out.frozen 1
      have sc0 := (K1_3.out).cell 0
      have sf0 := (K1_3.out).frozen 0
      have sk0 : Blk (w3.setCell ⟨w.heap.size + 1, 0, none⟩ (.int .i64 ((n2 : Int)))) (w.heap.size + 1) 45 #[.int .i64 ((n2 : Int)), .slice none 0 0] := by simpa using (K1_3.out).set_ 0 (.int .i64 ((n2 : Int)))
      have sc1 := (sk0).cell 1
      have sf1 := (sk0).frozen 1
      have sk1 : Blk ((w3.setCell ⟨w.heap.size + 1, 0, none⟩ (.int .i64 ((n2 : Int)))).setCell ⟨w.heap.size + 1, 1, none⟩ (.slice A' ts.length c')) (w.heap.size + 1) 45 #[.int .i64 ((n2 : Int)), .slice A' ts.length c'] := by simpa using (sk0).set_ 1 (.slice A' ts.length c')
      have sK := Lib.hid sk1
      have sd0 := sk1.cell 0
      have sd1 := sk1.cell 1
      clear sk0 sk1
      have HOF := Lib.hid (own_low (own_low HO.out (p := ⟨w.heap.size + 1, 0, none⟩) (by show w.heap.size + 1 < _; omega) (.int .i64 n2)) (p := ⟨w.heap.size + 1, 1, none⟩) (by show w.heap.size + 1 < _; omega) (.slice A' ts.length c'))
      have HRF := Lib.hid ((HRS.out.low (p := ⟨w.heap.size + 1, 0, none⟩) (by show w.heap.size + 1 < _; omega) (.int .i64 n2)).low (p := ⟨w.heap.size + 1, 1, none⟩) (by show w.heap.size + 1 < _; omega) (.slice A' ts.length c'))
      go_wp2
      exact bodyPost_ret (v := .tuple #[.agg #[.int .i64 n2, .slice A' ts.length c'], .bool true]) (by simp [results, Try.results11, go_sem, sd0, sd1, l1_3]) rfl ⟨maps_yes ⟨by omega, by have := HTL.out; omega, by have h0 := HDIV.out; rwa [← HTL.out] at h0, rfl, fun r hr => (HRS.out r hr).1⟩ (readsT_own HOF.out HRF.out), by repeat' (first | exact Below.refl _ _ | exact HB3.out | refine below_drewN ?_ _ | refine Below.drew ?_ | refine Below.alloc ?_ (by first | omega | (simp; done) | (simp; omega) | (simp [World.setCell]; omega)) _ | refine Below.setCell ?_ (by first | omega | (simp; done) | (simp; omega)) _ | assumption)⟩
    have hak : (a : Int) < (k : Int) := by omega
    have HKM := Lib.hid hkm
    have hx1 : Reads w3 w1.heap.size 1 A1 n2 (hs.map (.int .i64)) := reads_touched RX1.out (fun q hq => by omega) (by omega) HTC.out
    have hx2 : Reads w3 w1.heap.size 1 A2 n2 (is.map (.int .i64)) := reads_touched RX2.out (fun q hq => by omega) (by omega) HTC.out
    have QX1 := Lib.hid hx1
    have QX2 := Lib.hid hx2
    have HKD := Lib.hid hkd
    have HKR := Lib.hid hkr
    have HBW := Lib.hid hbw
    have z2 := hkd.cell 2
    clear hkm hx1 hx2 hkd hkr hbw
    go_wp2
    clear z2
    go_loopw [7, 8] (fun o x wr => ∃ (i : Nat) (xs : List Int), xs.length = i ∧ i ≤ n2 ∧ x = .int .i64 i ∧ Below w3.heap.size w3 wr ∧ wr.ownsRow w3.heap.size 3 1 o i (xs.map (.int .i64)) ∧ (∀ z ∈ xs, -100000 ≤ z ∧ z ≤ 100000) ∧ (∀ z ∈ hs.take i, -50000 ≤ z ∧ z ≤ 50000)) (fun _ x _ => n2 - (intOf x).toNat)
    case atStart => exact ⟨0, [], rfl, by omega, rfl, Below.refl _ _, World.ownsRow_nil _ _ _ _, by simp, by simp⟩
    case round =>
      obtain ⟨i, xs, hxl, hi, rfl, hb4, ho4, hxz, hth⟩ := hrel
      obtain ⟨w4, hnm⟩ : ∃ z : World, z = wr := ⟨_, rfl⟩
      subst hnm
      have HBI := Lib.hid hb4
      have HO4 := Lib.hid ho4
      have HXL := Lib.hid hxl
      have HXZ := Lib.hid hxz
      have HTH := Lib.hid hth
      have hb4s := hb4.size
      have hkd := HKD.out.below hb4 HKD.out.lt
      have hkr := HKR.out.below hb4 HKR.out.lt
      have hkm := HKM.out.below hb4 HKM.out.lt
      have hbw4 := HBW.out.trans (hb4.mono HBW.out.size)
      clear hb4 ho4 hxl hxz hth
      by_cases hlt2 : i < n2
      rotate_left
      · obtain rfl : n2 = i := by omega
        have HALL2 : Hid (∀ z ∈ hs, -50000 ≤ z ∧ z ≤ 50000) := by
          have := HTH.out
          rw [List.take_of_length_le (by omega)] at this
          exact Lib.hid this
        obtain ⟨A4, c4, rfl, -⟩ := own_reads HO4.out
        have ho5 := own_below HO.out HBI.out (Nat.le_refl _)
        have hrs5 := HRS.out.below HBI.out
        have hnr : RowsAt w2.heap.size n2 [⟨A4, n2, c4, xs⟩] w4 := fun r hr => by
          obtain rfl : r = ⟨A4, n2, c4, xs⟩ := by simpa using hr
          exact ⟨⟨rfl, HXL.out, HXZ.out⟩, own_mono HO4.out hw3⟩
        obtain ⟨v', W2, hrun, ho6, hrs6, hb6⟩ := snocl5_run w2.heap.size v n2 ts ⟨A4, n2, c4, xs⟩ w4 ho5 hrs5 hnr (by omega) (by have := HTL.out; omega)
        simp only [TRow.val] at hrun
        have hlf : (ts ++ [(⟨A4, n2, c4, xs⟩ : TRow)]).length = a + 1 := by rw [List.length_append, HTL.out]; rfl
        rw [hlf] at ho6
        obtain ⟨A6, c6, rfl, -⟩ := own_reads ho6
        have HRUN := Lib.hid hrun
        have hkm6 := Blk.below hkm hb6 hsz2
        have hkd6 := Blk.below hkd hb6 (by omega)
        have y1 := hkm6.cell 1
        have y2 := hkm6.frozen 1
        have z2 := hkd6.cell 2
        have w0 := hkm.cell 1
        have htc6 : Tch (fun q => q = w1.heap.size) w2 (W2.setCell ⟨w1.heap.size, 1, none⟩ (.slice A6 (a + 1) c6)) := ((HTC.out.call HBI.out).low hb6).setCell (.inl rfl) _
        have hkmf : Blk (W2.setCell ⟨w1.heap.size, 1, none⟩ (.slice A6 (a + 1) c6)) w1.heap.size 45 #[.int .i64 n2, (.slice A6 (a + 1) c6)] := by simpa using hkm6.set_ 1 (.slice A6 (a + 1) c6)
        have HOF := Lib.hid (own_low ho6 (p := ⟨w1.heap.size, 1, none⟩) (by show w1.heap.size < _; omega) (.slice A6 (a + 1) c6))
        have HRF := Lib.hid (hrs6.low (p := ⟨w1.heap.size, 1, none⟩) (by show w1.heap.size < _; omega) (.slice A6 (a + 1) c6))
        have HTF := Lib.hid htc6
        have HKF := Lib.hid hkmf
        have ea := IntWalk.i64_in ((a : Int) + 1) ⟨by omega, by omega⟩
        have HLF := Lib.hid hlf
        clear hrun ho6 hrs6 hb6 ho5 hrs5 hnr hkm6 hkd6 htc6 hkmf hlf hkd hkr hkm hbw4
        go_wp2_with (first | (at_builtin; refine wpList_app _ W2 (.slice A6 (a + 1) c6) rfl _ _ _ rfl _ _ rfl rfl HRUN.out ?_))
        go_roundw
        case rel => exact ⟨(.slice A6 (a + 1) c6), _, a + 1, HLF.out, by omega, by go_num, HTF.out, HKF.out, by rw [HLF.out]; exact HOF.out, HRF.out, fun _ => HALL2.out⟩
        case measure => simp [intOf]; omega
      have hii : (i : Int) < (n2 : Int) := by omega
      have ei := IntWalk.i64_in ((i : Int) + 1) ⟨by omega, by omega⟩
      have hq1 := QX1.out.below (HBI.out.mono (show w1.heap.size ≤ w3.heap.size by omega))
      have hq2 := QX2.out.below (HBI.out.mono (show w1.heap.size ≤ w3.heap.size by omega))
      obtain ⟨as', has'⟩ : ∃ q, a * s = q := ⟨_, rfl⟩
      have hasn : as' ≤ n2 := by rw [← has', ← HSK.out]; exact Nat.mul_le_mul_right s (by omega)
      have hasi : (a : Int) * (s : Int) = (as' : Int) := by rw [← has']; exact (Int.natCast_mul a s).symm
      obtain ⟨x2, hx2⟩ : ∃ x2 : Int, (i : Int) - (as' : Int) = x2 := ⟨_, rfl⟩
      have f1 : IntKind.i64.wrap ((a : Int) * (s : Int)) = (as' : Int) := by rw [hasi]; exact IntWalk.i64_in _ ⟨by omega, by omega⟩
      have f2 : IntKind.i64.wrap ((i : Int) - (as' : Int)) = x2 := by rw [hx2]; exact IntWalk.i64_in x2 ⟨by omega, by omega⟩
      have hxn := Int.emod_nonneg x2 (show (n2 : Int) ≠ 0 by omega)
      have hxl := Int.emod_lt_of_pos x2 (show (0 : Int) < n2 by omega)
      obtain ⟨jv, hjv⟩ : ∃ jv : Nat, x2 % (n2 : Int) = (jv : Int) := ⟨(x2 % n2).toNat, by omega⟩
      have hjn : jv < n2 := by omega
      have hj0 : a = 0 → jv = i := fun h0 => by
        have e0 : as' = 0 := by rw [← has', h0, Nat.zero_mul]
        rw [← hx2, e0, Int.emod_eq_of_lt (by omega) (by omega)] at hjv
        omega
      have hmd : ∀ w', Calls Try.prog 15 #[.int .i64 x2, .int .i64 n2] w' fun e w'' => e = .returned (.int .i64 jv) ∧ w' = w'' := fun w' => by
        have := mod5_any x2 n2 w' (by omega) (by omega) (by omega) (by omega)
        rwa [hjv] at this
      have HMOD := Lib.hid hmd
      obtain ⟨xb, xo, z1, hA, hxb, hz1, c0⟩ := hq1.int_ hlt2
      obtain ⟨xb', xo', z3, hA', -, hz3, c3⟩ := hq1.int_ hjn
      obtain ⟨yb, yo, z2, hB, hyb, hz2, d0⟩ := hq2.int_ hlt2
      subst hA
      obtain ⟨rfl, rfl⟩ : xb = xb' ∧ xo = xo' := by simpa using hA'
      subst hB
      obtain ⟨ta, hta⟩ : ∃ t, withinB z1 (-50000) 50000 = t := ⟨_, rfl⟩
      obtain ⟨tb, htb⟩ : ∃ t, withinB z2 (-50000) 50000 = t := ⟨_, rfl⟩
      have HTA := Lib.hid hta
      have HTB := Lib.hid htb
      have HZ1 := Lib.hid hz1
      have HZ3 := Lib.hid hz3
      have HJ0 := Lib.hid hj0
      clear hA' hq1 hq2 has' hasi hx2 hxn hxl hjv hmd hta htb hz1 hz2 hz3 hj0
      have HB4 := Lib.hid hbw4
      have K0_4 := Lib.hid (show Blk w4 (w.heap.size) 42 #[.slice (some ⟨xb, xo, none⟩) n2 c1, .slice (some ⟨yb, yo, none⟩) n2 c2, .int .i64 ((k : Int))] from hkd)
      have K1_4 := Lib.hid (show Blk w4 (w.heap.size + 1) 45 #[.int .i64 (0), .slice none 0 0] from hkr)
      have K2_4 := Lib.hid (show Blk w4 (w1.heap.size) 45 #[.int .i64 ((n2 : Int)), v] from hkm)
      clear hbw4 hkd hkr hkm
      have l0_4 : w.heap.size < w4.heap.size := K0_4.out.lt
      have z0_0_4 : w4.cell? ⟨w.heap.size, 0, none⟩ = some (.slice (some ⟨xb, xo, none⟩) n2 c1) := K0_4.out.cell 0
      have z0_1_4 : w4.cell? ⟨w.heap.size, 1, none⟩ = some (.slice (some ⟨yb, yo, none⟩) n2 c2) := K0_4.out.cell 1
      have z0_2_4 : w4.cell? ⟨w.heap.size, 2, none⟩ = some (.int .i64 ((k : Int))) := K0_4.out.cell 2
      have l1_4 : w.heap.size + 1 < w4.heap.size := K1_4.out.lt
      have z1_0_4 : w4.cell? ⟨w.heap.size + 1, 0, none⟩ = some (.int .i64 (0)) := K1_4.out.cell 0
      have z1_1_4 : w4.cell? ⟨w.heap.size + 1, 1, none⟩ = some (.slice none 0 0) := K1_4.out.cell 1
      have l2_4 : w1.heap.size < w4.heap.size := K2_4.out.lt
      have z2_0_4 : w4.cell? ⟨w1.heap.size, 0, none⟩ = some (.int .i64 ((n2 : Int))) := K2_4.out.cell 0
      have z2_1_4 : w4.cell? ⟨w1.heap.size, 1, none⟩ = some (v) := K2_4.out.cell 1
      have zf1_0 := K1_4.out.frozen 0
      have zf1_1 := K1_4.out.frozen 1
      go_wp2_with fail
      refine (withinref_is _ _ _ ta HTA.out _).mono ?_
      rintro e w' ⟨rfl, rfl⟩
      cases ta with
      | false =>
        go_wp2
        exact bodyPost_ret (v := .tuple #[.agg #[.int .i64 0, .slice none 0 0], .bool false]) (by simp [results, Try.results11, go_sem, z1_0_4, z1_1_4, l1_4]) rfl ⟨maps_no, by repeat' (first | exact Below.refl _ _ | exact HB4.out | refine below_drewN ?_ _ | refine Below.drew ?_ | refine Below.alloc ?_ (by first | omega | (simp; done) | (simp; omega) | (simp [World.setCell]; omega)) _ | refine Below.setCell ?_ (by first | omega | (simp; done) | (simp; omega)) _ | assumption)⟩
      | true =>
      go_wp2_with fail
      refine (withinref_is _ _ _ tb HTB.out _).mono ?_
      rintro e w' ⟨rfl, rfl⟩
      cases tb with
      | false =>
        go_wp2
        exact bodyPost_ret (v := .tuple #[.agg #[.int .i64 0, .slice none 0 0], .bool false]) (by simp [results, Try.results11, go_sem, z1_0_4, z1_1_4, l1_4]) rfl ⟨maps_no, by repeat' (first | exact Below.refl _ _ | exact HB4.out | refine below_drewN ?_ _ | refine Below.drew ?_ | refine Below.alloc ?_ (by first | omega | (simp; done) | (simp; omega) | (simp [World.setCell]; omega)) _ | refine Below.setCell ?_ (by first | omega | (simp; done) | (simp; omega)) _ | assumption)⟩
      | true =>
      have i1 := within_bounds HTA.out
      have i2 := within_bounds HTB.out
      have i3 : -50000 ≤ z3 ∧ z3 ≤ 50000 := by
        rcases Nat.eq_zero_or_pos a with h0 | h0
        · have h1 := HZ3.out
          rw [HJ0.out h0, HZ1.out] at h1
          obtain rfl : z1 = z3 := by simpa using h1
          exact i1
        · exact HALL.out h0 z3 (List.mem_of_getElem? HZ3.out)
      have hk00 : ¬ k = 0 := by omega
      obtain ⟨y, hy⟩ : ∃ y, z3 + z2 = y := ⟨_, rfl⟩
      have f3 : IntKind.i64.wrap (z3 + z2) = y := by rw [hy]; exact IntWalk.i64_in y ⟨by omega, by omega⟩
      have hyb2 : -100000 ≤ y ∧ y ≤ 100000 := by omega
      obtain ⟨W0, hW0⟩ : ∃ W0, W0 = w4.drewN 1 := ⟨_, rfl⟩
      obtain ⟨W1, hW1⟩ : ∃ W1, W1 = W0.alloc (.cells #[.int .i64 y] 3) := ⟨_, rfl⟩
      have e0 : W0.cell? ⟨w.heap.size, 0, none⟩ = some (.slice (some ⟨xb, xo, none⟩) n2 c1) := by rw [hW0]; exact z0_0_4
      have e1' : W0.cell? ⟨w.heap.size, 1, none⟩ = some (.slice (some ⟨yb, yo, none⟩) n2 c2) := by rw [hW0]; exact z0_1_4
      have e2' : W0.cell? ⟨w.heap.size, 2, none⟩ = some (.int .i64 k) := by rw [hW0]; exact z0_2_4
      have e3 : W0.cell? ⟨xb, xo + jv, none⟩ = some (.int .i64 z3) := by rw [hW0]; exact c3
      have e4 : W0.cell? ⟨yb, yo + i, none⟩ = some (.int .i64 z2) := by rw [hW0]; exact d0
      obtain ⟨v', W2, hrun, ho5, hb5⟩ := snoci5_run w3.heap.size _ i _ y W0 (by rw [hW0]; exact own_drewN HO4.out 1) (by rw [hW0]; exact hb4s) (by omega)
      rw [← hW1] at hrun
      have HRUN := Lib.hid hrun
      have HO5 := Lib.hid (show W2.ownsRow w3.heap.size 3 1 v' (i + 1) ((xs ++ [y]).map (.int .i64)) by rw [List.map_append]; exact ho5)
      have HB5 := Lib.hid ((show Below w3.heap.size w3 W0 by rw [hW0]; exact below_drewN HBI.out 1).trans hb5)
      clear hrun ho5 hb5 hy
      go_wp2_with fail
      refine Fx.region (fun f w' => (w' = if f 22 then W2 else if f 21 then W1 else W0) ∧ True) (by kernel_rfl) (by kernel_rfl) ?_ ?_
      · intro f hf0
        rw [hf0 22, hf0 21]; exact ⟨hW0.symm, trivial⟩
      repeat (first
        | (refine Fx.skip_ (by rfl) (fun f w h => h) ?_; simp only [Act.put, List.setIfInBounds_toArray, List.set_cons_zero, List.set_cons_succ])
        | (refine Fx.val_ ?_ (by rfl) ?_ (fun f w h => h) ?_
           rotate_left
           · intro f w' hD hk
             obtain ⟨jw, _⟩ := id hD
             clear hk hD jw
             go_simp
             try rfl
           simp only [Act.put, List.setIfInBounds_toArray, List.set_cons_zero, List.set_cons_succ]))
      refine Fx.val_ ?_ (by rfl) ?_ (fun f w h => h) ?_
      rotate_left
      · intro f w' hD hk
        obtain ⟨jw, _⟩ := id hD
        have hp13_ : f 13 = false := hk.2.1 13 (by kernel_rfl)
        have hp14_ : f 14 = false := hk.un 14 13 (by kernel_rfl) hp13_
        have hp20_ : f 20 = false := hk.un 20 14 (by kernel_rfl) hp14_
        have hb_ : f 21 = false := hk.un 21 20 (by kernel_rfl) hp20_
        have ha_ : f 22 = false := hk.un 22 21 (by kernel_rfl) hb_
        rw [hb_, ha_] at jw
        simp only [Bool.false_eq_true, if_false] at jw
        have q1 : w'.cell? ⟨w.heap.size, 0, none⟩ = some (.slice (some ⟨xb, xo, none⟩) n2 c1) := by rw [jw]; exact e0
        clear hk hD jw hb_ ha_ hp13_ hp14_ hp20_
        go_simp
        try rfl
      simp only [Act.put, List.setIfInBounds_toArray, List.set_cons_zero, List.set_cons_succ]
      repeat (first
        | (refine Fx.skip_ (by rfl) (fun f w h => h) ?_; simp only [Act.put, List.setIfInBounds_toArray, List.set_cons_zero, List.set_cons_succ])
        | (refine Fx.val_ ?_ (by rfl) ?_ (fun f w h => h) ?_
           rotate_left
           · intro f w' hD hk
             obtain ⟨jw, _⟩ := id hD
             clear hk hD jw
             go_simp
             try rfl
           simp only [Act.put, List.setIfInBounds_toArray, List.set_cons_zero, List.set_cons_succ]))
      refine Fx.val_ ?_ (by rfl) ?_ (fun f w h => h) ?_
      rotate_left
      · intro f w' hD hk
        obtain ⟨jw, _⟩ := id hD
        have hp8_ : f 8 = false := hk.2.1 8 (by kernel_rfl)
        have hp9_ : f 9 = false := hk.un 9 8 (by kernel_rfl) hp8_
        have hp10_ : f 10 = false := hk.un 10 9 (by kernel_rfl) hp9_
        have hp12_ : f 12 = false := hk.un 12 10 (by kernel_rfl) hp10_
        have hp13_ : f 13 = false := hk.un 13 12 (by kernel_rfl) hp12_
        have hp14_ : f 14 = false := hk.un 14 13 (by kernel_rfl) hp13_
        have hp20_ : f 20 = false := hk.un 20 14 (by kernel_rfl) hp14_
        have hb_ : f 21 = false := hk.un 21 20 (by kernel_rfl) hp20_
        have ha_ : f 22 = false := hk.un 22 21 (by kernel_rfl) hb_
        rw [hb_, ha_] at jw
        simp only [Bool.false_eq_true, if_false] at jw
        have q1 : w'.cell? ⟨w.heap.size, 2, none⟩ = some (.int .i64 k) := by rw [jw]; exact e2'
        clear hk hD jw hb_ ha_ hp8_ hp9_ hp10_ hp12_ hp13_ hp14_ hp20_
        go_simp
        try rfl
      simp only [Act.put, List.setIfInBounds_toArray, List.set_cons_zero, List.set_cons_succ]
      repeat (first
        | (refine Fx.skip_ (by rfl) (fun f w h => h) ?_; simp only [Act.put, List.setIfInBounds_toArray, List.set_cons_zero, List.set_cons_succ])
        | (refine Fx.val_ ?_ (by rfl) ?_ (fun f w h => h) ?_
           rotate_left
           · intro f w' hD hk
             obtain ⟨jw, _⟩ := id hD
             clear hk hD jw
             go_simp
             try rfl
           simp only [Act.put, List.setIfInBounds_toArray, List.set_cons_zero, List.set_cons_succ]))
      refine Fx.call_ (.int .i64 (jv : Int)) ?_ ?_ (by rfl) ?_ ?_ ?_
      rotate_left 2
      · intro w'
        go_simp
        refine ⟨?_, ?_⟩ <;> rfl
      · intro f w' hD hk
        exact (HMOD.out w').mono fun e w'' ⟨he, hw⟩ => ⟨he, hw ▸ hD⟩
      simp only [Act.put, List.setIfInBounds_toArray, List.set_cons_zero, List.set_cons_succ]
      repeat (first
        | (refine Fx.skip_ (by rfl) (fun f w h => h) ?_; simp only [Act.put, List.setIfInBounds_toArray, List.set_cons_zero, List.set_cons_succ])
        | (refine Fx.val_ ?_ (by rfl) ?_ (fun f w h => h) ?_
           rotate_left
           · intro f w' hD hk
             obtain ⟨jw, _⟩ := id hD
             clear hk hD jw
             go_simp
             try rfl
           simp only [Act.put, List.setIfInBounds_toArray, List.set_cons_zero, List.set_cons_succ]))
      refine Fx.val_ ?_ (by rfl) ?_ (fun f w h => h) ?_
      rotate_left
      · intro f w' hD hk
        obtain ⟨jw, _⟩ := id hD
        have hp20_ : f 20 = false := hk.2.1 20 (by kernel_rfl)
        have hb_ : f 21 = false := hk.un 21 20 (by kernel_rfl) hp20_
        have ha_ : f 22 = false := hk.un 22 21 (by kernel_rfl) hb_
        rw [hb_, ha_] at jw
        simp only [Bool.false_eq_true, if_false] at jw
        have q1 : w'.cell? ⟨xb, xo + jv, none⟩ = some (.int .i64 z3) := by rw [jw]; exact e3
        clear hk hD jw hb_ ha_ hp20_
        go_simp
        try rfl
      simp only [Act.put, List.setIfInBounds_toArray, List.set_cons_zero, List.set_cons_succ]
      repeat (first
        | (refine Fx.skip_ (by rfl) (fun f w h => h) ?_; simp only [Act.put, List.setIfInBounds_toArray, List.set_cons_zero, List.set_cons_succ])
        | (refine Fx.val_ ?_ (by rfl) ?_ (fun f w h => h) ?_
           rotate_left
           · intro f w' hD hk
             obtain ⟨jw, _⟩ := id hD
             clear hk hD jw
             go_simp
             try rfl
           simp only [Act.put, List.setIfInBounds_toArray, List.set_cons_zero, List.set_cons_succ]))
      refine Fx.val_ ?_ (by rfl) ?_ (fun f w h => h) ?_
      rotate_left
      · intro f w' hD hk
        obtain ⟨jw, _⟩ := id hD
        have hp18_ : f 18 = false := hk.2.1 18 (by kernel_rfl)
        have hp19_ : f 19 = false := hk.un 19 18 (by kernel_rfl) hp18_
        have hp20_ : f 20 = false := hk.un 20 19 (by kernel_rfl) hp19_
        have hb_ : f 21 = false := hk.un 21 20 (by kernel_rfl) hp20_
        have ha_ : f 22 = false := hk.un 22 21 (by kernel_rfl) hb_
        rw [hb_, ha_] at jw
        simp only [Bool.false_eq_true, if_false] at jw
        have q1 : w'.cell? ⟨w.heap.size, 1, none⟩ = some (.slice (some ⟨yb, yo, none⟩) n2 c2) := by rw [jw]; exact e1'
        clear hk hD jw hb_ ha_ hp18_ hp19_ hp20_
        go_simp
        try rfl
      simp only [Act.put, List.setIfInBounds_toArray, List.set_cons_zero, List.set_cons_succ]
      repeat (first
        | (refine Fx.skip_ (by rfl) (fun f w h => h) ?_; simp only [Act.put, List.setIfInBounds_toArray, List.set_cons_zero, List.set_cons_succ])
        | (refine Fx.val_ ?_ (by rfl) ?_ (fun f w h => h) ?_
           rotate_left
           · intro f w' hD hk
             obtain ⟨jw, _⟩ := id hD
             clear hk hD jw
             go_simp
             try rfl
           simp only [Act.put, List.setIfInBounds_toArray, List.set_cons_zero, List.set_cons_succ]))
      refine Fx.val_ ?_ (by rfl) ?_ (fun f w h => h) ?_
      rotate_left
      · intro f w' hD hk
        obtain ⟨jw, _⟩ := id hD
        have hp20_ : f 20 = false := hk.2.1 20 (by kernel_rfl)
        have hb_ : f 21 = false := hk.un 21 20 (by kernel_rfl) hp20_
        have ha_ : f 22 = false := hk.un 22 21 (by kernel_rfl) hb_
        rw [hb_, ha_] at jw
        simp only [Bool.false_eq_true, if_false] at jw
        have q1 : w'.cell? ⟨yb, yo + i, none⟩ = some (.int .i64 z2) := by rw [jw]; exact e4
        clear hk hD jw hb_ ha_ hp20_
        go_simp
        try rfl
      simp only [Act.put, List.setIfInBounds_toArray, List.set_cons_zero, List.set_cons_succ]
      repeat (first
        | (refine Fx.skip_ (by rfl) (fun f w h => h) ?_; simp only [Act.put, List.setIfInBounds_toArray, List.set_cons_zero, List.set_cons_succ])
        | (refine Fx.val_ ?_ (by rfl) ?_ (fun f w h => h) ?_
           rotate_left
           · intro f w' hD hk
             obtain ⟨jw, _⟩ := id hD
             clear hk hD jw
             go_simp
             try rfl
           simp only [Act.put, List.setIfInBounds_toArray, List.set_cons_zero, List.set_cons_succ]))
      refine Fx.eff_ (.slice (some ⟨W0.heap.size, 0, none⟩) 1 1) (fun w' => W1) (by rfl) ?_ ?_ ?_
      · intro f w' hD hk
        obtain ⟨jw, _⟩ := id hD
        have hb_ : f 21 = false := hk.1
        have ha_ : f 22 = false := hk.un 22 21 (by kernel_rfl) hb_
        rw [hb_, ha_] at jw
        simp only [Bool.false_eq_true, if_false] at jw
        subst jw
        clear hk hD
        rw [hW1]
        go_simp
      · intro f w' hD hk
        obtain ⟨jw, _⟩ := id hD
        have hb_ : f 21 = false := hk.1
        have ha_ : f 22 = false := hk.un 22 21 (by kernel_rfl) hb_
        rw [hb_, ha_] at jw
        simp only [Bool.false_eq_true, if_false] at jw
        subst jw
        exact ⟨by simp [Fx.add, ha_], trivial⟩
      simp only [Act.put, List.setIfInBounds_toArray, List.set_cons_zero, List.set_cons_succ]
      refine Fx.eff_ (v') (fun w' => W2) (by rfl) ?_ ?_ ?_
      · intro f w' hD hk
        obtain ⟨jw, _⟩ := id hD
        have hb_ : f 21 = true := hk.2.2.1 21 (by kernel_rfl)
        have ha_ : f 22 = false := hk.1
        rw [hb_, ha_] at jw
        simp only [Bool.false_eq_true, if_false, if_true] at jw
        subst jw
        exact exec_append (.tmp 66) (.tmp 87) _ rfl HRUN.out
      · intro f w' hD hk
        obtain ⟨jw, _⟩ := id hD
        have hb_ : f 21 = true := hk.2.2.1 21 (by kernel_rfl)
        have ha_ : f 22 = false := hk.1
        rw [hb_, ha_] at jw
        simp only [Bool.false_eq_true, if_false, if_true] at jw
        subst jw
        exact ⟨by simp [Fx.add], trivial⟩
      simp only [Act.put, List.setIfInBounds_toArray, List.set_cons_zero, List.set_cons_succ]
      repeat (first
        | (refine Fx.skip_ (by rfl) (fun f w h => h) ?_; simp only [Act.put, List.setIfInBounds_toArray, List.set_cons_zero, List.set_cons_succ])
        | (refine Fx.val_ ?_ (by rfl) ?_ (fun f w h => h) ?_
           rotate_left
           · intro f w' hD hk
             obtain ⟨jw, _⟩ := id hD
             clear hk hD jw
             go_simp
             try rfl
           simp only [Act.put, List.setIfInBounds_toArray, List.set_cons_zero, List.set_cons_succ]))
      refine Fx.nil_ ?_
      intro f w1 hall hD
      have hf22 := hall 22 (by simp)
      obtain ⟨jw, _⟩ := hD
      simp only [hf22, if_true] at *
      subst jw
      try clear hall
      clear e0 e1' e2' e3 e4
      go_wp2
      go_roundw
      case rel => exact ⟨i + 1, xs ++ [y], by rw [List.length_append, HXL.out]; rfl, by omega, by go_num, HB5.out, HO5.out, fun q hq => by
          rcases List.mem_append.1 hq with h | h
          · exact HXZ.out q h
          · obtain rfl : q = y := by simpa using h
            exact hyb2, fun q hq => by
          rw [List.take_add_one, HZ1.out] at hq
          rcases List.mem_append.1 hq with h | h
          · exact HTH.out q h
          · obtain rfl : q = z1 := by simpa using h
            exact i1⟩
      case measure => simp [intOf]; omega
end Go.Proofs.Ytcggceincmljdaa

end
