import Derived.Test.YtcggceincmljdaaQ2
import Derived.Test.YtcggceincmljdaaQ1
import Derived.Test.YtcggceincmljdaaQ4
import Derived.Test.YtcggceincmljdaaQ5
import Derived.Deep.CutBlock

section
/- Contracts of the search of the best pair of gears. -/
namespace Go.Proofs.Ytcggceincmljdaa
open Go.RowKit

def cmpI (a b : Int) : Int := if a < b then -1 else if b < a then 1 else 0



/-- By how much a pair misses a ratio. -/
def offF (rn rd gd gv : Int) : Int := ((rn * gv - gd * rd).natAbs : Int)
def cmpF (rn rd : Int) (g h : Int × Int) : Int := cmpI (offF rn rd g.1 g.2 * h.2) (offF rn rd h.1 h.2 * g.2)

def orF (x y z : Int) : Int := if x ≠ 0 then x else if y ≠ 0 then y else z


/-- Is a pair better than another one? -/
def betterB (rn rd : Int) (g h : Int × Int) : Bool :=
  decide (orF (cmpF rn rd g h) (cmpI (g.1 + g.2) (h.1 + h.2)) (cmpI g.1 h.1) < 0)
def stepF (rn rd : Int) (o g : Int × Int) : Int × Int := if betterB rn rd g o then g else o
/-- The best pair so far: rows of drivers. -/
def rowF (rn rd : Int) (lo : Int) (m : Nat) (d : Int) (o : Int × Int) : Int × Int := (List.range m).foldl (fun o (j : Nat) => stepF rn rd o (d, lo + (j : Int))) o
def bestF (rn rd : Int) (lo : Int) (m k : Nat) : Int × Int := (List.range k).foldl (fun o (i : Nat) => rowF rn rd lo m (lo + (i : Int)) o) (lo, lo)
end Go.Proofs.Ytcggceincmljdaa

end

section
/- Contracts of the check of a search for gears, and of the best pair. -/
namespace Go.Proofs.Ytcggceincmljdaa
open Go.RowKit

def searchErr (rn rd lo hi : Int) : Int :=
  if fracErr rn rd ≠ 0 then fracErr rn rd else if rn ≤ 0 ∨ withinB lo 1 500 = false ∨ withinB hi 1 500 = false then 2 else if hi < lo then 9 else 0


/-- The best pair between two numbers of teeth. -/
def bestP (rn rd lo hi : Int) : Int × Int := bestF rn rd lo (hi - lo + 1).toNat (hi - lo + 1).toNat

def PairPost (rn rd lo hi : Int) (w : World) (e : Ending) (w' : World) : Prop :=
  Below w.heap.size w w' ∧ (searchErr rn rd lo hi ≠ 0 → e = .returned (.tuple #[.agg #[.int .i64 0, .int .i64 0], .int .i64 (searchErr rn rd lo hi)])) ∧
  (searchErr rn rd lo hi = 0 → e = .returned (.tuple #[.agg #[.int .i64 (bestP rn rd lo hi).1, .int .i64 (bestP rn rd lo hi).2], .int .i64 0]))


end Go.Proofs.Ytcggceincmljdaa

end

section
/- Contracts of the reference's comparison of pairs of gears, and of its search. -/
namespace Go.Proofs.Ytcggceincmljdaa
open Go.RowKit




def nearB (rn rd : Int) (g h : Int × Int) : Bool := decide (offF rn rd g.1 g.2 * h.2 < offF rn rd h.1 h.2 * g.2)




/-- The reference's search: by sums, then by the driver. -/
def rstepF (rn rd lo hi : Int) (o : Int × Int) (g : Int × Int) : Int × Int := if withinB g.2 lo hi && nearB rn rd g o then g else o
def rrowF (rn rd lo hi : Int) (s : Int) (m : Nat) (o : Int × Int) : Int × Int := (List.range m).foldl (fun o (i : Nat) => rstepF rn rd lo hi o (lo + (i : Int), s - (lo + (i : Int)))) o
def rbestF (rn rd lo hi : Int) (m k : Nat) : Int × Int := (List.range k).foldl (fun o (j : Nat) => rrowF rn rd lo hi (2 * lo + (j : Int)) m o) (lo, lo)
end Go.Proofs.Ytcggceincmljdaa

end

section
/- Contracts of the reference's products of fractions, and of the ratio of a pair of gears. -/
namespace Go.Proofs.Ytcggceincmljdaa
open Go.RowKit

/-- What the reference's product answers. -/
def madeV (a b : Int) : Value := if smallB a b then .tuple #[.agg #[.int .i64 (redN a b), .int .i64 (redD a b)], .int .i64 0] else .tuple #[.agg #[.int .i64 0, .int .i64 0], .int .i64 8]




end Go.Proofs.Ytcggceincmljdaa

end

section
/- Lowest terms; the mirror's part and the rest of turned maps. -/
namespace Go.Proofs.Ytcggceincmljdaa
open Go Go.RowKit

theorem gcdprof_any (a b : Int) (w : World) (h1 : -9223372036854775808 ≤ a) (h2 : a ≤ 9223372036854775807) (h3 : -9223372036854775808 ≤ b) (h4 : b ≤ 9223372036854775807) :
    Calls Try.prog 39 #[.int .i64 a, .int .i64 b] w fun e w' => e = .returned (.int .i64 (wrap64 (Int.gcd a b : Int))) ∧ ∃ n, w' = w.drewN n := by
  go_enter Try.func39, Try.ntmps39
  go_wp2
  go_loopw [0, 1] (fun x y wr => ∃ c d : Int, x = .int .i64 c ∧ y = .int .i64 d ∧ -9223372036854775808 ≤ c ∧ c ≤ 9223372036854775807 ∧ -9223372036854775808 ≤ d ∧ d ≤ 9223372036854775807 ∧ Int.gcd c d = Int.gcd a b ∧ ∃ n, wr = w.drewN n) (fun _ y _ => (intOf y).natAbs)
  case atStart => exact ⟨a, b, rfl, rfl, h1, h2, h3, h4, rfl, 0, rfl⟩
  case round =>
    obtain ⟨c, d, rfl, rfl, k1, k2, k3, k4, hg, n, rfl⟩ := hrel
    have HG := Lib.hid hg
    clear hg
    by_cases hd : d = 0
    · subst hd
      go_wp2
      all_goals go_ret
      · have h : c < wrap64 (-c) := by assumption
        exact ⟨ret_int (show wrap64 (-c) = _ from by rw [max_lt c k1 k2 h, ← HG.out]; simp), _, rfl⟩
      · have h : ¬ c < wrap64 (-c) := by first | assumption | (have h : wrap64 (-c) ≤ c := by assumption); omega
        exact ⟨ret_int (show c = _ from by rw [← HG.out]; simpa using max_ge c k1 k2 h), _, rfl⟩
    · have ht := tmod_in c d k3 k4 hd
      have hl := tmod_lt c d hd
      go_wp2
      go_quiet (fail)
      go_wp2
      go_roundw
      case rel => exact ⟨d, c.tmod d, rfl, rfl, k3, k4, ht.1, ht.2, (gcd_tmod c d).trans HG.out, _, World.drewN_drewN _ _ _⟩
      case measure => exact hl
theorem lowestprof_is (a b x y : Int) (hx : redN a b = x) (hy : redD a b = y) (w : World) (h1 : -9223372036854775808 < a) (h2 : a ≤ 9223372036854775807) (h3 : 1 ≤ b) (h4 : b ≤ 9223372036854775807) :
    Calls Try.prog 36 #[.int .i64 a, .int .i64 b] w fun e w' => e = .returned (.agg #[.int .i64 x, .int .i64 y]) ∧ Below w.heap.size w w' := by
  have hg := gcd_small a b h3 h4
  have hg1 : 1 ≤ (Int.gcd a b : Int) := by have := Int.gcd_pos_of_ne_zero_right a (show b ≠ 0 by omega); omega
  have e1 : a.tdiv (Int.gcd a b : Int) = x := by rw [tdiv_gcd_left]; exact hx
  have e2 : b.tdiv (Int.gcd a b : Int) = y := by rw [tdiv_gcd_right]; exact hy
  obtain ⟨g, hgg⟩ : ∃ g : Int, (Int.gcd a b : Int) = g := ⟨_, rfl⟩
  have hga := div_gcd_in a b h1 h2 (by omega)
  have hgb := div_gcd_in b a (by omega) h4 (by rw [Int.gcd_comm]; omega)
  rw [Int.gcd_comm b a] at hgb
  have hx2 : a / (Int.gcd a b : Int) = x := hx
  have hy2 : b / (Int.gcd a b : Int) = y := hy
  rw [hx2] at hga
  rw [hy2] at hgb
  rw [hgg] at hg hg1 e1 e2
  have hg0 : ¬ g = 0 := by omega
  have hv1 := IntWalk.i64_in x ⟨by omega, by omega⟩
  have hv2 := IntWalk.i64_in y ⟨by omega, by omega⟩
  have HG := Lib.hid hg
  have HGG := Lib.hid hgg
  have hc : ∀ w', Calls Try.prog 39 #[.int .i64 a, .int .i64 b] w' fun e w'' => e = .returned (.int .i64 g) ∧ ∃ n, w'' = w'.drewN n := fun w' => by
    have := gcdprof_any a b w' (by omega) h2 (by omega) h4
    rw [HGG.out, HG.out] at this
    exact this
  have HC := Lib.hid hc
  clear hx hy hg hgg hga hgb hx2 hy2 hc
  go_enter Try.func36, Try.ntmps36
  go_wp2_with fail
  refine (HC.out _).mono ?_
  rintro e w1 ⟨rfl, q, rfl⟩
  go_wp2_with fail
  go_region
  all_goals go_wp2
  all_goals exact bodyPost_ret (v := .agg #[.int .i64 x, .int .i64 y]) (by simp [results, Try.results36, go_sem]) rfl ⟨rfl, by repeat' (first | exact Below.refl _ _ | refine below_drewN ?_ _ | refine Below.drew ?_ | refine Below.alloc ?_ (by first | omega | (simp; done) | (simp; omega) | (simp [World.setCell]; omega)) _ | refine Below.setCell ?_ (by first | omega | (simp; done) | (simp; omega)) _ | assumption)⟩


theorem info_fr5 : (Try.prog.info? 53).map (fun i => (i.zero, i.size, i.bytes)) = some (some (.agg #[.int .i64 0, .int .i64 0]), 2, 16) := by kernel_rfl
theorem snocfr_run (B : Nat) (v : Value) (k : Nat) (xs : List Value) (a b : Int) (w : World) (ho : w.ownsRow B 53 2 v k xs) (hB : B ≤ w.heap.size) (hk : k ≤ 100000) :
    ∃ v' W2, (Builtin.append_ #[48, 48] 48 #[v, .slice (some ⟨w.heap.size, 0, none⟩) 1 1]).run Try.prog (w.alloc (.cells #[.int .i64 a, .int .i64 b] 53)) = .ok v' W2 ∧ W2.ownsRow B 53 2 v' (k + 1) (xs ++ [.int .i64 a, .int .i64 b]) ∧ Below B w W2 := by
  obtain ⟨i0, hi0, hz0, hz1, hz2⟩ := info_parts info_fr5
  have hbW : Below B w (w.alloc (.cells #[.int .i64 a, .int .i64 b] 53)) := (Below.refl _ _).alloc hB _
  obtain ⟨v', W2, hrun, o2', hg2, -⟩ := run_append_any (P := Try.prog) (w.alloc (.cells #[.int .i64 a, .int .i64 b] 53)) B 48 48 53 i0 _ 2 16 Try.underlying48 hi0 hz0 hz1 hz2 rfl (by omega) v k _ (ho.alloc _) (w.alloc (.cells #[.int .i64 a, .int .i64 b] 53)).heap.size (some ⟨w.heap.size, 0, none⟩) 1 1 [.int .i64 a, .int .i64 b] (Blk.reads (Blk.new _ _ _) rfl) (by simp [Value.oneCell']) (by unfold maxLen; omega) (by first | omega | (simp; omega)) (by first | omega | (simp; omega))
  exact ⟨v', W2, hrun, o2', hbW.grown hg2 (Nat.le_trans hB hbW.size) (fun g hg => (own_lt ho hg).1)⟩
/-- Numbers divided by one of them all. -/
def parL (H : Nat → Int) (b : Int) (n : Nat) : List (Int × Int) := (List.range n).map fun j => (redN (H j) b, redD (H j) b)
theorem parL_succ (H : Nat → Int) (b : Int) (n : Nat) : parL H b (n + 1) = parL H b n ++ [(redN (H n) b, redD (H n) b)] := by unfold parL; rw [List.range_succ, List.map_append]; rfl
theorem parL_get (H : Nat → Int) (b : Int) {n i : Nat} (hi : i < n) : (parL H b n)[i]? = some (redN (H i) b, redD (H i) b) := by unfold parL; rw [List.getElem?_map, List.getElem?_range hi]; rfl
theorem parL_congr {H H' : Nat → Int} {b : Int} {n : Nat} (h : ∀ j, j < n → H j = H' j) : parL H b n = parL H' b n := by
  unfold parL
  refine List.map_congr_left fun j hj => ?_
  rw [h j (List.mem_range.1 hj)]
set_option maxRecDepth 100000 in
set_option maxHeartbeats 2000000 in
theorem parts_is (g n : Nat) (H : Nat → Int) (b : Int) (hn : n ≤ 100) (hb : 1 ≤ b ∧ b ≤ 1000) (hH : ∀ j, j < n → -1000000000 ≤ H j ∧ H j ≤ 1000000000) (w : World) (hx : RB w g 3 n (fun v => .int .i64 (H v))) :
    Calls Try.prog 27 #[.slice (some ⟨g, 0, none⟩) n n, .int .i64 b] w fun e w' => ∃ A c, e = .returned (.slice A n c) ∧ Below w.heap.size w w' ∧ Reads w' w'.heap.size 2 A n (cells2 (parL H b n)) := by
  have HX := Lib.hid hx
  have HH := Lib.hid hH
  have hgl := hx.lt
  clear hx hH
  go_enter Try.func27, Try.ntmps27
  go_wp2
  go_loopw [5, 10] (fun o x wr => ∃ j : Nat, j ≤ n ∧ x = .int .i64 j ∧ Below w.heap.size w wr ∧ wr.ownsRow w.heap.size 53 2 o j (cells2 (parL H b j))) (fun _ x _ => n - (intOf x).toNat)
  case atStart => exact ⟨0, by omega, rfl, Below.refl _ _, World.ownsRow_nil _ _ _ _⟩
  case round =>
    obtain ⟨j, hj, rfl, hb1, ho⟩ := hrel
    obtain ⟨w1, hnm⟩ : ∃ z : World, z = wr := ⟨_, rfl⟩
    subst hnm
    have HB1 := Lib.hid hb1
    have HO1 := Lib.hid ho
    have hb1s := hb1.size
    clear ho hb1
    by_cases hlt : j < n
    rotate_left
    · obtain rfl : n = j := by omega
      obtain ⟨A', c', rfl, hr⟩ := own_reads HO1.out
      have HR := Lib.hid hr
      clear hr
      go_wp2
      go_ret
      exact ⟨A', c', rfl, HB1.out, HR.out⟩
    have hjj : (j : Int) < (n : Int) := by omega
    have ej := IntWalk.i64_in ((j : Int) + 1) ⟨by omega, by omega⟩
    have c0 := (HB1.out.cell (p := ⟨g, j, none⟩) hgl).trans (HX.out.cell hlt)
    have hz := HH.out j hlt
    obtain ⟨z, hzz⟩ : ∃ z, H j = z := ⟨_, rfl⟩
    rw [hzz] at c0 hz
    obtain ⟨x, hx⟩ : ∃ x, redN z b = x := ⟨_, rfl⟩
    obtain ⟨y, hy⟩ : ∃ y, redD z b = y := ⟨_, rfl⟩
    have HXX := Lib.hid hx
    have HYY := Lib.hid hy
    have HPS := Lib.hid (show parL H b (j + 1) = parL H b j ++ [(x, y)] by rw [parL_succ, hzz, hx, hy])
    clear hx hy hzz
    go_wp2_with fail
    refine (lowestprof_is z b x y HXX.out HYY.out _ (by omega) (by omega) (by omega) (by omega)).mono ?_
    rintro e w2 ⟨rfl, hb2⟩
    obtain ⟨v', W2, hrun, ho3, hb3⟩ := snocfr_run w.heap.size _ j _ x y w2 (own_below HO1.out hb2 (Nat.le_refl _)) (Nat.le_trans hb1s hb2.size) (by omega)
    have HRUN := Lib.hid hrun
    have HO3 := Lib.hid (show W2.ownsRow w.heap.size 53 2 v' (j + 1) (cells2 (parL H b (j + 1))) by rw [HPS.out, cells2_append]; exact ho3)
    have HB3 := Lib.hid ((HB1.out.trans (hb2.mono hb1s)).trans hb3)
    clear hrun ho3 hb3 hb2
    go_wp2_with (first | (at_builtin; refine wpList_app _ W2 v' rfl _ _ _ rfl _ _ rfl rfl HRUN.out ?_))
    go_roundw
    case rel => exact ⟨j + 1, by omega, by go_num, HB3.out, HO3.out⟩
    case measure => simp [intOf]; omega

/-- The mirror's part, the rest, as fractions. -/
def mirL (t : List TRow) (n k : Nat) : List (Int × Int) := parL (mirF (matT t) k n (n / k) k) ((k : Int) * k) n
def rstL (t : List TRow) (n k : Nat) : List (Int × Int) := parL (rstF (matT t) k) k n
set_option maxRecDepth 100000 in
set_option maxHeartbeats 2000000 in
theorem mirror_is (A : Option Addr) (n k c : Nat) (t : List TRow) (hok : TurnOk n k t) (w : World) (hx : ReadsT w w.heap.size A k t) :
    Calls Try.prog 12 #[.agg #[.int .i64 n, .slice A k c]] w fun e w' => ∃ A' c', e = .returned (.tuple #[.slice A' n c', .int .i64 0]) ∧ Below w.heap.size w w' ∧ Reads w' w'.heap.size 2 A' n (cells2 (mirL t n k)) := by
  have hn := hok.n1
  have hk := hok.k1
  obtain ⟨kk, hkk⟩ : ∃ kk : Int, (k : Int) * k = kk := ⟨_, rfl⟩
  have hkb : 1 ≤ kk ∧ kk ≤ 144 := by
    have h1 := Int.mul_le_mul (show (1 : Int) ≤ k by omega) (show (1 : Int) ≤ k by omega) (by omega) (by omega)
    have h2 := Int.mul_le_mul (show (k : Int) ≤ 12 by omega) (show (k : Int) ≤ 12 by omega) (by omega) (by omega)
    omega
  have ek : IntKind.i64.wrap ((k : Int) * k) = kk := by rw [hkk]; exact IntWalk.i64_in kk ⟨by omega, by omega⟩
  have HMM := Lib.hid (fun j (_ : j < n) => (show -1000000000 ≤ mirF (matT t) k n (n / k) k j ∧ mirF (matT t) k n (n / k) k j ≤ 1000000000 by have := zmir_in (s := n / k) hk.2 (show 0 < n by omega) hok.mat (Nat.le_refl k) j; omega))
  have HOK := Lib.hid hok
  have HX := Lib.hid hx
  have HKK := Lib.hid hkk
  clear hok hx hkk
  go_enter Try.func12, Try.ntmps12
  go_wp2_with fail
  generalize hwn : (w.alloc (.cells #[.int .i64 ((n : Int)), .slice A k c] 45)) = w1
  have hbn : Below w.heap.size w w1 := by rw [← hwn]; repeat' (first | exact Below.refl _ _ | refine below_drewN ?_ _ | refine Below.drew ?_ | refine Below.alloc ?_ (by first | omega | (simp; done) | (simp; omega) | (simp [World.setCell]; omega)) _ | refine Below.setCell ?_ (by first | omega | (simp; done) | (simp; omega)) _)
  have HB1 := Lib.hid (show Below w.heap.size w w1 from hbn)
  have K0_1 := Lib.hid (show Blk w1 (w.heap.size) 45 #[.int .i64 ((n : Int)), .slice A k c] by rw [← hwn]; repeat' (first | exact Blk.at_ _ (by first | rfl | (simp; done) | (simp; omega)) _ _ | refine Blk.drewN ?_ _ | refine Blk.drew ?_ | refine Blk.alloc ?_ _ | refine Blk.far ?_ (by first | omega | (simp; done) | (simp; omega)) _ | assumption))
  have HN1 := Lib.hid hbn
  have hz1 := hbn.size
  clear hwn hbn
  have l0_1 : w.heap.size < w1.heap.size := K0_1.out.lt
  have z0_0_1 : w1.cell? ⟨w.heap.size, 0, none⟩ = some (.int .i64 ((n : Int))) := K0_1.out.cell 0
  have z0_1_1 : w1.cell? ⟨w.heap.size, 1, none⟩ = some (.slice A k c) := K0_1.out.cell 1
  have g0 := (HX.out.below HB1.out).more HB1.out.size
  have R0_1 := Lib.hid g0
  clear g0
  clear HX
  refine (checkturned_ok A n k c t HOK.out _ R0_1.out).mono ?_
  rintro e w2 ⟨rfl, hb⟩
  have HB2 := Lib.hid (show Below w.heap.size w w2 from step_below hb (by repeat' (first | exact Below.refl _ _ | exact HB1.out | refine below_drewN ?_ _ | refine Below.drew ?_ | refine Below.alloc ?_ (by first | omega | (simp; done) | (simp; omega) | (simp [World.setCell]; omega)) _ | refine Below.setCell ?_ (by first | omega | (simp; done) | (simp; omega)) _ | assumption)))
  have K0_2 := Lib.hid (step_blk hb (show Blk _ (w.heap.size) 45 #[.int .i64 ((n : Int)), .slice A k c] by repeat' (first | exact K0_1.out | exact Blk.at_ _ (by first | rfl | (simp; done) | (simp; omega)) _ _ | refine Blk.drewN ?_ _ | refine Blk.drew ?_ | refine Blk.alloc ?_ _ | refine Blk.far ?_ (by first | omega | (simp; done) | (simp; omega)) _ | assumption)))
  have hL2 := Lib.hid (show Below w1.heap.size w1 _ from reads_mid hb (by repeat' (first | exact Below.refl _ _ | refine below_drewN ?_ _ | refine Below.drew ?_ | refine Below.alloc ?_ (by first | omega | (simp; done) | (simp; omega) | (simp [World.setCell]; omega)) _ | refine Below.setCell ?_ (by first | omega | (simp; done) | (simp; omega)) _)))
  have R0_2 := Lib.hid (readsT_lay hb hL2.out R0_1.out)
  clear hL2 R0_1
  have hz2 := hb.size
  try simp only [World.size_alloc, World.drewN, World.drew] at hz2
  clear hb K0_1 z0_0_1 z0_1_1 l0_1
  have l0_2 : w.heap.size < w2.heap.size := K0_2.out.lt
  have z0_0_2 : w2.cell? ⟨w.heap.size, 0, none⟩ = some (.int .i64 ((n : Int))) := K0_2.out.cell 0
  have z0_1_2 : w2.cell? ⟨w.heap.size, 1, none⟩ = some (.slice A k c) := K0_2.out.cell 1
  go_wp2_with fail
  refine (split_is A n k c t HOK.out _ R0_2.out).mono ?_
  rintro e w3 ⟨gp, gm, rfl, hb, hsp⟩
  have HB3 := Lib.hid (show Below w.heap.size w w3 from step_below hb (by repeat' (first | exact Below.refl _ _ | exact HB2.out | refine below_drewN ?_ _ | refine Below.drew ?_ | refine Below.alloc ?_ (by first | omega | (simp; done) | (simp; omega) | (simp [World.setCell]; omega)) _ | refine Below.setCell ?_ (by first | omega | (simp; done) | (simp; omega)) _ | assumption)))
  have K0_3 := Lib.hid (step_blk hb (show Blk _ (w.heap.size) 45 #[.int .i64 ((n : Int)), .slice A k c] by repeat' (first | exact K0_2.out | exact Blk.at_ _ (by first | rfl | (simp; done) | (simp; omega)) _ _ | refine Blk.drewN ?_ _ | refine Blk.drew ?_ | refine Blk.alloc ?_ _ | refine Blk.far ?_ (by first | omega | (simp; done) | (simp; omega)) _ | assumption)))
  have hL3 := Lib.hid (show Below w2.heap.size w2 _ from reads_mid hb (by repeat' (first | exact Below.refl _ _ | refine below_drewN ?_ _ | refine Below.drew ?_ | refine Below.alloc ?_ (by first | omega | (simp; done) | (simp; omega) | (simp [World.setCell]; omega)) _ | refine Below.setCell ?_ (by first | omega | (simp; done) | (simp; omega)) _)))
  have R0_3 := Lib.hid (readsT_lay hb hL3.out R0_2.out)
  clear hL3 R0_2
  have hz3 := hb.size
  try simp only [World.size_alloc, World.drewN, World.drew] at hz3
  clear hb K0_2 z0_0_2 z0_1_2 l0_2
  have l0_3 : w.heap.size < w3.heap.size := K0_3.out.lt
  have z0_0_3 : w3.cell? ⟨w.heap.size, 0, none⟩ = some (.int .i64 ((n : Int))) := K0_3.out.cell 0
  have z0_1_3 : w3.cell? ⟨w.heap.size, 1, none⟩ = some (.slice A k c) := K0_3.out.cell 1
  have HSP := Lib.hid hsp.2
  clear hsp
  clear R0_3
  go_wp2_with fail
  refine (parts_is gm n _ kk (by omega) ⟨by omega, by omega⟩ HMM.out _ HSP.out).mono ?_
  rintro e w4 ⟨A', c', rfl, hb, hr⟩
  have HB4 := Lib.hid (show Below w.heap.size w w4 from step_below hb (by repeat' (first | exact Below.refl _ _ | exact HB3.out | refine below_drewN ?_ _ | refine Below.drew ?_ | refine Below.alloc ?_ (by first | omega | (simp; done) | (simp; omega) | (simp [World.setCell]; omega)) _ | refine Below.setCell ?_ (by first | omega | (simp; done) | (simp; omega)) _ | assumption)))
  have K0_4 := Lib.hid (step_blk hb (show Blk _ (w.heap.size) 45 #[.int .i64 ((n : Int)), .slice A k c] by repeat' (first | exact K0_3.out | exact Blk.at_ _ (by first | rfl | (simp; done) | (simp; omega)) _ _ | refine Blk.drewN ?_ _ | refine Blk.drew ?_ | refine Blk.alloc ?_ _ | refine Blk.far ?_ (by first | omega | (simp; done) | (simp; omega)) _ | assumption)))
  have hL4 := Lib.hid (show Below w3.heap.size w3 _ from reads_mid hb (by repeat' (first | exact Below.refl _ _ | refine below_drewN ?_ _ | refine Below.drew ?_ | refine Below.alloc ?_ (by first | omega | (simp; done) | (simp; omega) | (simp [World.setCell]; omega)) _ | refine Below.setCell ?_ (by first | omega | (simp; done) | (simp; omega)) _)))
  clear hL4 
  have hz4 := hb.size
  try simp only [World.size_alloc, World.drewN, World.drew] at hz4
  clear hb K0_3 z0_0_3 z0_1_3 l0_3
  have l0_4 : w.heap.size < w4.heap.size := K0_4.out.lt
  have z0_0_4 : w4.cell? ⟨w.heap.size, 0, none⟩ = some (.int .i64 ((n : Int))) := K0_4.out.cell 0
  have z0_1_4 : w4.cell? ⟨w.heap.size, 1, none⟩ = some (.slice A k c) := K0_4.out.cell 1
  have HR := Lib.hid hr
  clear hr
  go_wp2
  go_ret2
  exact ⟨A', c', rfl, HB4.out, by unfold mirL; rw [HKK.out]; exact HR.out⟩
set_option maxRecDepth 100000 in
set_option maxHeartbeats 2000000 in
theorem rest_is (A : Option Addr) (n k c : Nat) (t : List TRow) (hok : TurnOk n k t) (w : World) (hx : ReadsT w w.heap.size A k t) :
    Calls Try.prog 13 #[.agg #[.int .i64 n, .slice A k c]] w fun e w' => ∃ A' c', e = .returned (.tuple #[.slice A' n c', .int .i64 0]) ∧ Below w.heap.size w w' ∧ Reads w' w'.heap.size 2 A' n (cells2 (rstL t n k)) := by
  have hn := hok.n1
  have hk := hok.k1
  have HMM := Lib.hid (fun j (hj : j < n) => (show -1000000000 ≤ rstF (matT t) k j ∧ rstF (matT t) k j ≤ 1000000000 by have := zrst_in hk.2 hok.mat hj (Nat.le_refl k); omega))
  have HOK := Lib.hid hok
  have HX := Lib.hid hx
  clear hok hx
  go_enter Try.func13, Try.ntmps13
  go_wp2_with fail
  generalize hwn : (w.alloc (.cells #[.int .i64 ((n : Int)), .slice A k c] 45)) = w1
  have hbn : Below w.heap.size w w1 := by rw [← hwn]; repeat' (first | exact Below.refl _ _ | refine below_drewN ?_ _ | refine Below.drew ?_ | refine Below.alloc ?_ (by first | omega | (simp; done) | (simp; omega) | (simp [World.setCell]; omega)) _ | refine Below.setCell ?_ (by first | omega | (simp; done) | (simp; omega)) _)
  have HB1 := Lib.hid (show Below w.heap.size w w1 from hbn)
  have K0_1 := Lib.hid (show Blk w1 (w.heap.size) 45 #[.int .i64 ((n : Int)), .slice A k c] by rw [← hwn]; repeat' (first | exact Blk.at_ _ (by first | rfl | (simp; done) | (simp; omega)) _ _ | refine Blk.drewN ?_ _ | refine Blk.drew ?_ | refine Blk.alloc ?_ _ | refine Blk.far ?_ (by first | omega | (simp; done) | (simp; omega)) _ | assumption))
  have HN1 := Lib.hid hbn
  have hz1 := hbn.size
  clear hwn hbn
  have l0_1 : w.heap.size < w1.heap.size := K0_1.out.lt
  have z0_0_1 : w1.cell? ⟨w.heap.size, 0, none⟩ = some (.int .i64 ((n : Int))) := K0_1.out.cell 0
  have z0_1_1 : w1.cell? ⟨w.heap.size, 1, none⟩ = some (.slice A k c) := K0_1.out.cell 1
  have g0 := (HX.out.below HB1.out).more HB1.out.size
  have R0_1 := Lib.hid g0
  clear g0
  clear HX
  refine (checkturned_ok A n k c t HOK.out _ R0_1.out).mono ?_
  rintro e w2 ⟨rfl, hb⟩
  have HB2 := Lib.hid (show Below w.heap.size w w2 from step_below hb (by repeat' (first | exact Below.refl _ _ | exact HB1.out | refine below_drewN ?_ _ | refine Below.drew ?_ | refine Below.alloc ?_ (by first | omega | (simp; done) | (simp; omega) | (simp [World.setCell]; omega)) _ | refine Below.setCell ?_ (by first | omega | (simp; done) | (simp; omega)) _ | assumption)))
  have K0_2 := Lib.hid (step_blk hb (show Blk _ (w.heap.size) 45 #[.int .i64 ((n : Int)), .slice A k c] by repeat' (first | exact K0_1.out | exact Blk.at_ _ (by first | rfl | (simp; done) | (simp; omega)) _ _ | refine Blk.drewN ?_ _ | refine Blk.drew ?_ | refine Blk.alloc ?_ _ | refine Blk.far ?_ (by first | omega | (simp; done) | (simp; omega)) _ | assumption)))
  have hL2 := Lib.hid (show Below w1.heap.size w1 _ from reads_mid hb (by repeat' (first | exact Below.refl _ _ | refine below_drewN ?_ _ | refine Below.drew ?_ | refine Below.alloc ?_ (by first | omega | (simp; done) | (simp; omega) | (simp [World.setCell]; omega)) _ | refine Below.setCell ?_ (by first | omega | (simp; done) | (simp; omega)) _)))
  have R0_2 := Lib.hid (readsT_lay hb hL2.out R0_1.out)
  clear hL2 R0_1
  have hz2 := hb.size
  try simp only [World.size_alloc, World.drewN, World.drew] at hz2
  clear hb K0_1 z0_0_1 z0_1_1 l0_1
  have l0_2 : w.heap.size < w2.heap.size := K0_2.out.lt
  have z0_0_2 : w2.cell? ⟨w.heap.size, 0, none⟩ = some (.int .i64 ((n : Int))) := K0_2.out.cell 0
  have z0_1_2 : w2.cell? ⟨w.heap.size, 1, none⟩ = some (.slice A k c) := K0_2.out.cell 1
  go_wp2_with fail
  refine (split_is A n k c t HOK.out _ R0_2.out).mono ?_
  rintro e w3 ⟨gp, gm, rfl, hb, hsp⟩
  have HB3 := Lib.hid (show Below w.heap.size w w3 from step_below hb (by repeat' (first | exact Below.refl _ _ | exact HB2.out | refine below_drewN ?_ _ | refine Below.drew ?_ | refine Below.alloc ?_ (by first | omega | (simp; done) | (simp; omega) | (simp [World.setCell]; omega)) _ | refine Below.setCell ?_ (by first | omega | (simp; done) | (simp; omega)) _ | assumption)))
  have K0_3 := Lib.hid (step_blk hb (show Blk _ (w.heap.size) 45 #[.int .i64 ((n : Int)), .slice A k c] by repeat' (first | exact K0_2.out | exact Blk.at_ _ (by first | rfl | (simp; done) | (simp; omega)) _ _ | refine Blk.drewN ?_ _ | refine Blk.drew ?_ | refine Blk.alloc ?_ _ | refine Blk.far ?_ (by first | omega | (simp; done) | (simp; omega)) _ | assumption)))
  have hL3 := Lib.hid (show Below w2.heap.size w2 _ from reads_mid hb (by repeat' (first | exact Below.refl _ _ | refine below_drewN ?_ _ | refine Below.drew ?_ | refine Below.alloc ?_ (by first | omega | (simp; done) | (simp; omega) | (simp [World.setCell]; omega)) _ | refine Below.setCell ?_ (by first | omega | (simp; done) | (simp; omega)) _)))
  have R0_3 := Lib.hid (readsT_lay hb hL3.out R0_2.out)
  clear hL3 R0_2
  have hz3 := hb.size
  try simp only [World.size_alloc, World.drewN, World.drew] at hz3
  clear hb K0_2 z0_0_2 z0_1_2 l0_2
  have l0_3 : w.heap.size < w3.heap.size := K0_3.out.lt
  have z0_0_3 : w3.cell? ⟨w.heap.size, 0, none⟩ = some (.int .i64 ((n : Int))) := K0_3.out.cell 0
  have z0_1_3 : w3.cell? ⟨w.heap.size, 1, none⟩ = some (.slice A k c) := K0_3.out.cell 1
  have HSP := Lib.hid hsp.1
  clear hsp
  clear R0_3
  go_wp2_with fail
  refine (parts_is gp n _ k (by omega) ⟨by omega, by omega⟩ HMM.out _ HSP.out).mono ?_
  rintro e w4 ⟨A', c', rfl, hb, hr⟩
  have HB4 := Lib.hid (show Below w.heap.size w w4 from step_below hb (by repeat' (first | exact Below.refl _ _ | exact HB3.out | refine below_drewN ?_ _ | refine Below.drew ?_ | refine Below.alloc ?_ (by first | omega | (simp; done) | (simp; omega) | (simp [World.setCell]; omega)) _ | refine Below.setCell ?_ (by first | omega | (simp; done) | (simp; omega)) _ | assumption)))
  have K0_4 := Lib.hid (step_blk hb (show Blk _ (w.heap.size) 45 #[.int .i64 ((n : Int)), .slice A k c] by repeat' (first | exact K0_3.out | exact Blk.at_ _ (by first | rfl | (simp; done) | (simp; omega)) _ _ | refine Blk.drewN ?_ _ | refine Blk.drew ?_ | refine Blk.alloc ?_ _ | refine Blk.far ?_ (by first | omega | (simp; done) | (simp; omega)) _ | assumption)))
  have hL4 := Lib.hid (show Below w3.heap.size w3 _ from reads_mid hb (by repeat' (first | exact Below.refl _ _ | refine below_drewN ?_ _ | refine Below.drew ?_ | refine Below.alloc ?_ (by first | omega | (simp; done) | (simp; omega) | (simp [World.setCell]; omega)) _ | refine Below.setCell ?_ (by first | omega | (simp; done) | (simp; omega)) _)))
  clear hL4 
  have hz4 := hb.size
  try simp only [World.size_alloc, World.drewN, World.drew] at hz4
  clear hb K0_3 z0_0_3 z0_1_3 l0_3
  have l0_4 : w.heap.size < w4.heap.size := K0_4.out.lt
  have z0_0_4 : w4.cell? ⟨w.heap.size, 0, none⟩ = some (.int .i64 ((n : Int))) := K0_4.out.cell 0
  have z0_1_4 : w4.cell? ⟨w.heap.size, 1, none⟩ = some (.slice A k c) := K0_4.out.cell 1
  have HR := Lib.hid hr
  clear hr
  go_wp2
  go_ret2
  exact ⟨A', c', rfl, HB4.out, HR.out⟩
end Go.Proofs.Ytcggceincmljdaa

end

section
/- The arcs of readings. -/
namespace Go.Proofs.Ytcggceincmljdaa
open Go Go.RowKit

theorem info_arc : (Try.prog.info? 74).map (fun i => (i.zero, i.size, i.bytes)) = some (some (.agg #[.int .i64 0, .int .i64 0, .int .i64 0, .int .i64 0]), 4, 32) := by kernel_rfl
theorem snoc2_run (B : Nat) (v : Value) (k : Nat) (l : List Quad) (p q : Quad) (w : World) (ho : w.ownsRow B 74 4 v k (cells4 l)) (hB : B ≤ w.heap.size) (hk : k ≤ 100000) :
    ∃ v' W2, (Builtin.append_ #[71, 71] 71 #[v, .slice (some ⟨w.heap.size, 0, none⟩) 2 2]).run Try.prog (w.alloc (.cells #[.int .i64 p.1, .int .i64 p.2.1, .int .i64 p.2.2.1, .int .i64 p.2.2.2, .int .i64 q.1, .int .i64 q.2.1, .int .i64 q.2.2.1, .int .i64 q.2.2.2] 74)) = .ok v' W2 ∧ W2.ownsRow B 74 4 v' (k + 2) (cells4 (l ++ [p, q])) ∧ Below B w W2 := by
  obtain ⟨i0, hi0, hz0, hz1, hz2⟩ := info_parts info_arc
  obtain ⟨W, hW⟩ : ∃ W, W = w.alloc (.cells #[.int .i64 p.1, .int .i64 p.2.1, .int .i64 p.2.2.1, .int .i64 p.2.2.2, .int .i64 q.1, .int .i64 q.2.1, .int .i64 q.2.2.1, .int .i64 q.2.2.2] 74) := ⟨_, rfl⟩
  have hbW : Below B w W := by rw [hW]; exact (Below.refl _ _).alloc hB _
  have hoW : W.ownsRow B 74 4 v k (cells4 l) := by rw [hW]; exact ho.alloc _
  have hnb : Blk W w.heap.size 74 #[.int .i64 p.1, .int .i64 p.2.1, .int .i64 p.2.2.1, .int .i64 p.2.2.2, .int .i64 q.1, .int .i64 q.2.1, .int .i64 q.2.2.1, .int .i64 q.2.2.2] := by rw [hW]; exact Blk.new _ _ _
  have hsz : W.heap.size = w.heap.size + 1 := by rw [hW]; simp
  obtain ⟨v', W2, hrun, o2', hg2, -⟩ := run_append_any (P := Try.prog) W B 71 71 74 i0 _ 4 32 Try.underlying71 hi0 hz0 hz1 hz2 rfl (by omega) v k _ hoW W.heap.size (some ⟨w.heap.size, 0, none⟩) 2 2 (cells4 [p, q]) (Blk.reads hnb rfl) (one_cells4 _) (by unfold maxLen; omega) (by omega) (by omega)
  rw [hW] at hrun
  exact ⟨v', W2, hrun, by rw [cells4_append]; exact o2', hbW.grown hg2 (by omega) (fun g hg => (own_lt hoW hg).1)⟩
theorem own_adr5 {w : World} {base n size c : Nat} {A : Option Addr} {e : TypeId} {xs : List Value} (h : w.ownsRow base e size (.slice A n c) n xs) : ∀ b o, A = some ⟨b, o, none⟩ → base ≤ b := by
  intro b o hA
  rcases h.2 with ⟨h1, -⟩ | ⟨g, cap, cur, h1, hb, _⟩
  · injection h1 with h1 _ _; rw [hA] at h1; cases h1
  · injection h1 with h1 _ _; rw [hA] at h1; injection h1 with h1; injection h1 with h1 _ _; omega
set_option maxRecDepth 100000 in
set_option maxHeartbeats 2000000 in
theorem arcs_is (A : Option Addr) (k c n : Nat) (l : List Quad) (hk : k ≤ 100) (hn : n ≤ 40) (hl : RdOk n l) (w : World) (hx : Reads w w.heap.size 4 A k (cells4 l)) :
    Calls Try.prog 28 #[.slice A k c] w fun e w' => ∃ A' c', e = .returned (.slice A' (2 * k) c') ∧ Below w.heap.size w w' ∧ Reads w' w'.heap.size 4 A' (2 * k) (cells4 (arcsK l k)) ∧ ∀ b o, A' = some ⟨b, o, none⟩ → w.heap.size ≤ b := by
  have hlk := hx.len4
  have HX := Lib.hid hx
  have HL := Lib.hid hl
  clear hx hl
  go_enter Try.func28, Try.ntmps28
  go_wp2
  go_loopw [3, 8] (fun o i wr => ∃ j : Nat, j ≤ k ∧ i = .int .i64 j ∧ Below w.heap.size w wr ∧ wr.ownsRow w.heap.size 74 4 o (2 * j) (cells4 (arcsK l j))) (fun _ i _ => k - (intOf i).toNat)
  case atStart => exact ⟨0, by omega, rfl, Below.refl _ _, World.ownsRow_nil _ _ _ _⟩
  case round =>
    obtain ⟨j, hj, rfl, hb, ho⟩ := hrel
    obtain ⟨w1, hnm⟩ : ∃ z : World, z = wr := ⟨_, rfl⟩
    subst hnm
    have HB := Lib.hid hb
    have HO := Lib.hid ho
    clear ho
    by_cases hlt : j < k
    rotate_left
    · obtain rfl : k = j := by omega
      obtain ⟨A', c', rfl, hr⟩ := own_reads HO.out
      have HR := Lib.hid hr
      have HA := Lib.hid (own_adr5 HO.out)
      clear hb hr
      go_wp2
      go_ret
      exact ⟨A', c', rfl, HB.out, HR.out, HA.out⟩
    have hjj : (j : Int) < (k : Int) := by omega
    obtain ⟨xb, xo, ⟨a, b, lo, hi⟩, hAe, hxb, hr, c0, c1, c2, c3⟩ := (HX.out.below hb).quad hlt
    simp only at c0 c1 c2 c3
    obtain ⟨q1, q2, q3, q4, q5, q6⟩ := HL.out _ (List.mem_of_getElem? hr)
    simp only at q1 q2 q3 q4 q5 q6
    have HAR := Lib.hid (arcsK_succ hr)
    subst hAe
    have hbs := HB.out.size
    have e1 := IntWalk.i64_in ((j : Int) + 1) ⟨by omega, by omega⟩
    have e2 := IntWalk.i64_in (-lo) ⟨by omega, by omega⟩
    have e3 := IntWalk.i64_in (-(j : Int)) ⟨by omega, by omega⟩
    have e4 := IntWalk.i64_in (-(j : Int) - 1) ⟨by omega, by omega⟩
    clear hb hr
    go_upto_region 5 with fail
    generalize hW : w1.alloc (.cells #[.int .i64 a, .int .i64 b, .int .i64 lo, .int .i64 hi] 57) = w2
    have HB2 := Lib.hid (show Below w.heap.size w w2 by rw [← hW]; exact HB.out.alloc hbs _)
    have hk1 : Blk w2 w1.heap.size 57 #[.int .i64 a, .int .i64 b, .int .i64 lo, .int .i64 hi] := by rw [← hW]; exact Blk.new _ _ _
    have ho2 : w2.ownsRow w.heap.size 74 4 u3 (2 * j) (cells4 (arcsK l j)) := by rw [← hW]; exact HO.out.alloc _
    have z0 := hk1.cell 0
    have z1 := hk1.cell 1
    have z2 := hk1.cell 2
    have z3 := hk1.cell 3
    obtain ⟨v', W2, hrun, ho3, hb3⟩ := snoc2_run w.heap.size _ (2 * j) _ (a, b, hi, (j : Int) + 1) (b, a, -lo, -(j : Int) - 1) w2 ho2 HB2.out.size (by omega)
    have HRUN := Lib.hid hrun
    have HO3 := Lib.hid (show W2.ownsRow w.heap.size 74 4 v' (2 * (j + 1)) (cells4 (arcsK l (j + 1))) by rw [HAR.out]; exact ho3)
    have HB3 := Lib.hid (HB2.out.trans hb3)
    clear hW hk1 c0 c1 c2 c3 ho2 hrun ho3 hb3
    go_wp2_with (first | (at_builtin; refine wpList_app _ W2 v' rfl _ _ _ rfl _ _ rfl rfl HRUN.out ?_))
    go_roundw
    case rel => exact ⟨j + 1, by omega, by go_num, HB3.out, HO3.out⟩
    case measure => simp [intOf]; omega
end Go.Proofs.Ytcggceincmljdaa

end
