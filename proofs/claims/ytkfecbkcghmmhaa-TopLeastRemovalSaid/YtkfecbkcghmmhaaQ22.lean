import Derived.Test.YtkfecbkcghmmhaaQ21
import Derived.Test.YtkfecbkcghmmhaaQ9
import Derived.Test.YtkfecbkcghmmhaaQ20
import Derived.Test.YtkfecbkcghmmhaaQ5

section
/- The removals of a line; the line that is found; refusals of wrong maps. -/
namespace Go.Proofs.Ytkfecbkcghmmhaa
open Go Go.RowKit

/-- The removals of the first zones. -/
def remL (m : Rm) (a b c d : Int) (k : Nat) : List (Int × Int) := (List.range k).map fun z => (redN (remN m a b c d z) (b * d), redD (remN m a b c d z) (b * d))
set_option maxRecDepth 100000 in
set_option maxHeartbeats 4000000 in
theorem Reference_ok (m : Rm) (hm : m.Ok) (hn19 : m.n < 20) (a b c d : Int) (x y : Nat) (hxv : refF m = (((a, b), (c, d)), (x, y))) (w : World) (hx : RmAt m w) (hck : CkOk m w) :
    Calls Try.prog 10 #[m.val] w fun e w' => e = .returned (.tuple #[.agg #[.int .i64 a, .int .i64 b, .int .i64 c, .int .i64 d, .int .i64 (x : Int), .int .i64 (y : Int)], .int .i64 0]) ∧ Below w.heap.size w w' := by
  have HX := Lib.hid hx
  have HM := Lib.hid hm
  have HCK := Lib.hid hck
  have HXV := Lib.hid hxv
  clear hx hm hck hxv
  unfold Rm.val
  go_enter Try.func10, Try.ntmps10
  go_wp2_with fail
  generalize hwn : ((w.alloc (.cells #[.slice (some ⟨m.b1, m.o1, none⟩) m.n m.c1, .slice (some ⟨m.b2, m.o2, none⟩) m.n m.c2, .slice (some ⟨m.b3, m.o3, none⟩) m.n m.c3] 36)).alloc (.cells #[.int .i64 (0), .int .i64 (0), .int .i64 (0), .int .i64 (0), .int .i64 (0), .int .i64 (0)] 45)) = w1
  have hbn : Below w.heap.size w w1 := by rw [← hwn]; repeat' (first | exact Below.refl _ _ | refine below_drewN ?_ _ | refine Below.drew ?_ | refine Below.alloc ?_ (by first | omega | (simp; done) | (simp; omega) | (simp [World.setCell]; omega)) _ | refine Below.setCell ?_ (by first | omega | (simp; done) | (simp; omega)) _)
  have HB1 := Lib.hid (show Below w.heap.size w w1 from hbn)
  have K0_1 := Lib.hid (show Blk w1 (w.heap.size) 36 #[.slice (some ⟨m.b1, m.o1, none⟩) m.n m.c1, .slice (some ⟨m.b2, m.o2, none⟩) m.n m.c2, .slice (some ⟨m.b3, m.o3, none⟩) m.n m.c3] by rw [← hwn]; repeat' (first | exact Blk.at_ _ (by first | rfl | (simp; done) | (simp; omega)) _ _ | refine Blk.drewN ?_ _ | refine Blk.drew ?_ | refine Blk.alloc ?_ _ | refine Blk.far ?_ (by first | omega | (simp; done) | (simp; omega)) _ | assumption))
  have K1_1 := Lib.hid (show Blk w1 (w.heap.size + 1) 45 #[.int .i64 (0), .int .i64 (0), .int .i64 (0), .int .i64 (0), .int .i64 (0), .int .i64 (0)] by rw [← hwn]; repeat' (first | exact Blk.at_ _ (by first | rfl | (simp; done) | (simp; omega)) _ _ | refine Blk.drewN ?_ _ | refine Blk.drew ?_ | refine Blk.alloc ?_ _ | refine Blk.far ?_ (by first | omega | (simp; done) | (simp; omega)) _ | assumption))
  have HN1 := Lib.hid hbn
  have hz1 := hbn.size
  clear hwn hbn
  have l0_1 : w.heap.size < w1.heap.size := K0_1.out.lt
  have z0_0_1 : w1.cell? ⟨w.heap.size, 0, none⟩ = some (.slice (some ⟨m.b1, m.o1, none⟩) m.n m.c1) := K0_1.out.cell 0
  have z0_1_1 : w1.cell? ⟨w.heap.size, 1, none⟩ = some (.slice (some ⟨m.b2, m.o2, none⟩) m.n m.c2) := K0_1.out.cell 1
  have z0_2_1 : w1.cell? ⟨w.heap.size, 2, none⟩ = some (.slice (some ⟨m.b3, m.o3, none⟩) m.n m.c3) := K0_1.out.cell 2
  have l1_1 : w.heap.size + 1 < w1.heap.size := K1_1.out.lt
  have z1_0_1 : w1.cell? ⟨w.heap.size + 1, 0, none⟩ = some (.int .i64 (0)) := K1_1.out.cell 0
  have z1_1_1 : w1.cell? ⟨w.heap.size + 1, 1, none⟩ = some (.int .i64 (0)) := K1_1.out.cell 1
  have z1_2_1 : w1.cell? ⟨w.heap.size + 1, 2, none⟩ = some (.int .i64 (0)) := K1_1.out.cell 2
  have z1_3_1 : w1.cell? ⟨w.heap.size + 1, 3, none⟩ = some (.int .i64 (0)) := K1_1.out.cell 3
  have z1_4_1 : w1.cell? ⟨w.heap.size + 1, 4, none⟩ = some (.int .i64 (0)) := K1_1.out.cell 4
  have z1_5_1 : w1.cell? ⟨w.heap.size + 1, 5, none⟩ = some (.int .i64 (0)) := K1_1.out.cell 5
  refine (HCK.out w1 HB1.out).mono ?_
  rintro e w2 ⟨rfl, hb⟩
  have HB2 := Lib.hid (show Below w.heap.size w w2 from step_below hb (by repeat' (first | exact Below.refl _ _ | exact HB1.out | refine below_drewN ?_ _ | refine Below.drew ?_ | refine Below.alloc ?_ (by first | omega | (simp; done) | (simp; omega) | (simp [World.setCell]; omega)) _ | refine Below.setCell ?_ (by first | omega | (simp; done) | (simp; omega)) _ | assumption)))
  have K0_2 := Lib.hid (step_blk hb (show Blk _ (w.heap.size) 36 #[.slice (some ⟨m.b1, m.o1, none⟩) m.n m.c1, .slice (some ⟨m.b2, m.o2, none⟩) m.n m.c2, .slice (some ⟨m.b3, m.o3, none⟩) m.n m.c3] by repeat' (first | exact K0_1.out | exact K1_1.out | exact Blk.at_ _ (by first | rfl | (simp; done) | (simp; omega)) _ _ | refine Blk.drewN ?_ _ | refine Blk.drew ?_ | refine Blk.alloc ?_ _ | refine Blk.far ?_ (by first | omega | (simp; done) | (simp; omega)) _ | assumption)))
  have K1_2 := Lib.hid (step_blk hb (show Blk _ (w.heap.size + 1) 45 #[.int .i64 (0), .int .i64 (0), .int .i64 (0), .int .i64 (0), .int .i64 (0), .int .i64 (0)] by repeat' (first | exact K0_1.out | exact K1_1.out | exact Blk.at_ _ (by first | rfl | (simp; done) | (simp; omega)) _ _ | refine Blk.drewN ?_ _ | refine Blk.drew ?_ | refine Blk.alloc ?_ _ | refine Blk.far ?_ (by first | omega | (simp; done) | (simp; omega)) _ | assumption)))
  have hz2 := hb.size
  try simp only [World.size_alloc, World.drewN, World.drew] at hz2
  clear hb K0_1 K1_1 z0_0_1 z0_1_1 z0_2_1 l0_1 z1_0_1 z1_1_1 z1_2_1 z1_3_1 z1_4_1 z1_5_1 l1_1
  have l0_2 : w.heap.size < w2.heap.size := K0_2.out.lt
  have z0_0_2 : w2.cell? ⟨w.heap.size, 0, none⟩ = some (.slice (some ⟨m.b1, m.o1, none⟩) m.n m.c1) := K0_2.out.cell 0
  have z0_1_2 : w2.cell? ⟨w.heap.size, 1, none⟩ = some (.slice (some ⟨m.b2, m.o2, none⟩) m.n m.c2) := K0_2.out.cell 1
  have z0_2_2 : w2.cell? ⟨w.heap.size, 2, none⟩ = some (.slice (some ⟨m.b3, m.o3, none⟩) m.n m.c3) := K0_2.out.cell 2
  have l1_2 : w.heap.size + 1 < w2.heap.size := K1_2.out.lt
  have z1_0_2 : w2.cell? ⟨w.heap.size + 1, 0, none⟩ = some (.int .i64 (0)) := K1_2.out.cell 0
  have z1_1_2 : w2.cell? ⟨w.heap.size + 1, 1, none⟩ = some (.int .i64 (0)) := K1_2.out.cell 1
  have z1_2_2 : w2.cell? ⟨w.heap.size + 1, 2, none⟩ = some (.int .i64 (0)) := K1_2.out.cell 2
  have z1_3_2 : w2.cell? ⟨w.heap.size + 1, 3, none⟩ = some (.int .i64 (0)) := K1_2.out.cell 3
  have z1_4_2 : w2.cell? ⟨w.heap.size + 1, 4, none⟩ = some (.int .i64 (0)) := K1_2.out.cell 4
  have z1_5_2 : w2.cell? ⟨w.heap.size + 1, 5, none⟩ = some (.int .i64 (0)) := K1_2.out.cell 5
  go_wp2_with fail
  refine (reference_any m HM.out hn19 _ HXV.out _ (HX.out.lay HB2.out)).mono ?_
  rintro e w3 ⟨rfl, hb⟩
  unfold lineV
  simp only
  have HB3 := Lib.hid (show Below w.heap.size w w3 from step_below hb (by repeat' (first | exact Below.refl _ _ | exact HB2.out | refine below_drewN ?_ _ | refine Below.drew ?_ | refine Below.alloc ?_ (by first | omega | (simp; done) | (simp; omega) | (simp [World.setCell]; omega)) _ | refine Below.setCell ?_ (by first | omega | (simp; done) | (simp; omega)) _ | assumption)))
  have K0_3 := Lib.hid (step_blk hb (show Blk _ (w.heap.size) 36 #[.slice (some ⟨m.b1, m.o1, none⟩) m.n m.c1, .slice (some ⟨m.b2, m.o2, none⟩) m.n m.c2, .slice (some ⟨m.b3, m.o3, none⟩) m.n m.c3] by repeat' (first | exact K0_2.out | exact K1_2.out | exact Blk.at_ _ (by first | rfl | (simp; done) | (simp; omega)) _ _ | refine Blk.drewN ?_ _ | refine Blk.drew ?_ | refine Blk.alloc ?_ _ | refine Blk.far ?_ (by first | omega | (simp; done) | (simp; omega)) _ | assumption)))
  have K1_3 := Lib.hid (step_blk hb (show Blk _ (w.heap.size + 1) 45 #[.int .i64 (0), .int .i64 (0), .int .i64 (0), .int .i64 (0), .int .i64 (0), .int .i64 (0)] by repeat' (first | exact K0_2.out | exact K1_2.out | exact Blk.at_ _ (by first | rfl | (simp; done) | (simp; omega)) _ _ | refine Blk.drewN ?_ _ | refine Blk.drew ?_ | refine Blk.alloc ?_ _ | refine Blk.far ?_ (by first | omega | (simp; done) | (simp; omega)) _ | assumption)))
  have hz3 := hb.size
  try simp only [World.size_alloc, World.drewN, World.drew] at hz3
  clear hb K0_2 K1_2 z0_0_2 z0_1_2 z0_2_2 l0_2 z1_0_2 z1_1_2 z1_2_2 z1_3_2 z1_4_2 z1_5_2 l1_2
  have l0_3 : w.heap.size < w3.heap.size := K0_3.out.lt
  have z0_0_3 : w3.cell? ⟨w.heap.size, 0, none⟩ = some (.slice (some ⟨m.b1, m.o1, none⟩) m.n m.c1) := K0_3.out.cell 0
  have z0_1_3 : w3.cell? ⟨w.heap.size, 1, none⟩ = some (.slice (some ⟨m.b2, m.o2, none⟩) m.n m.c2) := K0_3.out.cell 1
  have z0_2_3 : w3.cell? ⟨w.heap.size, 2, none⟩ = some (.slice (some ⟨m.b3, m.o3, none⟩) m.n m.c3) := K0_3.out.cell 2
  have l1_3 : w.heap.size + 1 < w3.heap.size := K1_3.out.lt
  have z1_0_3 : w3.cell? ⟨w.heap.size + 1, 0, none⟩ = some (.int .i64 (0)) := K1_3.out.cell 0
  have z1_1_3 : w3.cell? ⟨w.heap.size + 1, 1, none⟩ = some (.int .i64 (0)) := K1_3.out.cell 1
  have z1_2_3 : w3.cell? ⟨w.heap.size + 1, 2, none⟩ = some (.int .i64 (0)) := K1_3.out.cell 2
  have z1_3_3 : w3.cell? ⟨w.heap.size + 1, 3, none⟩ = some (.int .i64 (0)) := K1_3.out.cell 3
  have z1_4_3 : w3.cell? ⟨w.heap.size + 1, 4, none⟩ = some (.int .i64 (0)) := K1_3.out.cell 4
  have z1_5_3 : w3.cell? ⟨w.heap.size + 1, 5, none⟩ = some (.int .i64 (0)) := K1_3.out.cell 5
  clear z1_0_3 z1_1_3 z1_2_3 z1_3_3 z1_4_3 z1_5_3
  have sc0 := (K1_3.out).cell 0
  have sf0 := (K1_3.out).frozen 0
  have sk0 : Blk (w3.setCell ⟨w.heap.size + 1, 0, none⟩ (.int .i64 a)) (w.heap.size + 1) 45 #[.int .i64 a, .int .i64 (0), .int .i64 (0), .int .i64 (0), .int .i64 (0), .int .i64 (0)] := by simpa using (K1_3.out).set_ 0 (.int .i64 a)
  have sc1 := (sk0).cell 1
  have sf1 := (sk0).frozen 1
  have sk1 : Blk ((w3.setCell ⟨w.heap.size + 1, 0, none⟩ (.int .i64 a)).setCell ⟨w.heap.size + 1, 1, none⟩ (.int .i64 b)) (w.heap.size + 1) 45 #[.int .i64 a, .int .i64 b, .int .i64 (0), .int .i64 (0), .int .i64 (0), .int .i64 (0)] := by simpa using (sk0).set_ 1 (.int .i64 b)
  have sc2 := (sk1).cell 2
  have sf2 := (sk1).frozen 2
  have sk2 : Blk (((w3.setCell ⟨w.heap.size + 1, 0, none⟩ (.int .i64 a)).setCell ⟨w.heap.size + 1, 1, none⟩ (.int .i64 b)).setCell ⟨w.heap.size + 1, 2, none⟩ (.int .i64 c)) (w.heap.size + 1) 45 #[.int .i64 a, .int .i64 b, .int .i64 c, .int .i64 (0), .int .i64 (0), .int .i64 (0)] := by simpa using (sk1).set_ 2 (.int .i64 c)
  have sc3 := (sk2).cell 3
  have sf3 := (sk2).frozen 3
  have sk3 : Blk ((((w3.setCell ⟨w.heap.size + 1, 0, none⟩ (.int .i64 a)).setCell ⟨w.heap.size + 1, 1, none⟩ (.int .i64 b)).setCell ⟨w.heap.size + 1, 2, none⟩ (.int .i64 c)).setCell ⟨w.heap.size + 1, 3, none⟩ (.int .i64 d)) (w.heap.size + 1) 45 #[.int .i64 a, .int .i64 b, .int .i64 c, .int .i64 d, .int .i64 (0), .int .i64 (0)] := by simpa using (sk2).set_ 3 (.int .i64 d)
  have sc4 := (sk3).cell 4
  have sf4 := (sk3).frozen 4
  have sk4 : Blk (((((w3.setCell ⟨w.heap.size + 1, 0, none⟩ (.int .i64 a)).setCell ⟨w.heap.size + 1, 1, none⟩ (.int .i64 b)).setCell ⟨w.heap.size + 1, 2, none⟩ (.int .i64 c)).setCell ⟨w.heap.size + 1, 3, none⟩ (.int .i64 d)).setCell ⟨w.heap.size + 1, 4, none⟩ (.int .i64 (x : Int))) (w.heap.size + 1) 45 #[.int .i64 a, .int .i64 b, .int .i64 c, .int .i64 d, .int .i64 (x : Int), .int .i64 (0)] := by simpa using (sk3).set_ 4 (.int .i64 (x : Int))
  have sc5 := (sk4).cell 5
  have sf5 := (sk4).frozen 5
  have sk5 : Blk ((((((w3.setCell ⟨w.heap.size + 1, 0, none⟩ (.int .i64 a)).setCell ⟨w.heap.size + 1, 1, none⟩ (.int .i64 b)).setCell ⟨w.heap.size + 1, 2, none⟩ (.int .i64 c)).setCell ⟨w.heap.size + 1, 3, none⟩ (.int .i64 d)).setCell ⟨w.heap.size + 1, 4, none⟩ (.int .i64 (x : Int))).setCell ⟨w.heap.size + 1, 5, none⟩ (.int .i64 (y : Int))) (w.heap.size + 1) 45 #[.int .i64 a, .int .i64 b, .int .i64 c, .int .i64 d, .int .i64 (x : Int), .int .i64 (y : Int)] := by simpa using (sk4).set_ 5 (.int .i64 (y : Int))
  have sK := Lib.hid sk5
  have sd0 := sk5.cell 0
  have sd1 := sk5.cell 1
  have sd2 := sk5.cell 2
  have sd3 := sk5.cell 3
  have sd4 := sk5.cell 4
  have sd5 := sk5.cell 5
  clear sk0 sk1 sk2 sk3 sk4 sk5
  go_wp2_with fail
  exact bodyPost_ret (v := .tuple #[.agg #[.int .i64 a, .int .i64 b, .int .i64 c, .int .i64 d, .int .i64 (x : Int), .int .i64 (y : Int)], .int .i64 0]) (by simp [results, Try.results10, go_sem, sd0, sd1, sd2, sd3, sd4, sd5, l1_3]) rfl ⟨rfl, ((((((HB3.out.setCell (p := ⟨w.heap.size + 1, 0, none⟩) (by show _ ≤ w.heap.size + 1; omega) (.int .i64 a)).setCell (p := ⟨w.heap.size + 1, 1, none⟩) (by show _ ≤ w.heap.size + 1; omega) (.int .i64 b)).setCell (p := ⟨w.heap.size + 1, 2, none⟩) (by show _ ≤ w.heap.size + 1; omega) (.int .i64 c)).setCell (p := ⟨w.heap.size + 1, 3, none⟩) (by show _ ≤ w.heap.size + 1; omega) (.int .i64 d)).setCell (p := ⟨w.heap.size + 1, 4, none⟩) (by show _ ≤ w.heap.size + 1; omega) (.int .i64 (x : Int))).setCell (p := ⟨w.heap.size + 1, 5, none⟩) (by show _ ≤ w.heap.size + 1; omega) (.int .i64 (y : Int)))⟩
end Go.Proofs.Ytkfecbkcghmmhaa

end

section
/- Plain law: a map that is raised by the same everywhere has the same hull, and needs as little removal. -/
namespace Go.Proofs.Ytkfecbkcghmmhaa

def upH (h : Nat → Int) (s : Int) : Nat → Int := fun i => h i + s
theorem underB_up (h q : Nat → Int) (s : Int) : underB (upH h s) q = underB h q := by
  funext a b c
  unfold underB upH
  rw [show h b + s - (h a + s) = h b - h a by omega, show h c + s - (h a + s) = h c - h a by omega]
theorem cmpI_up (a b s : Int) : cmpI (a + s) (b + s) = cmpI a b := by
  unfold cmpI
  by_cases h1 : a < b
  · rw [if_pos h1, if_pos (by omega)]
  · rw [if_neg h1, if_neg (by omega)]
    by_cases h2 : b < a
    · rw [if_pos h2, if_pos (by omega)]
    · rw [if_neg h2, if_neg (by omega)]
theorem cmpZ_up (h q : Nat → Int) (s : Int) : cmpZ (upH h s) q = cmpZ h q := by
  funext a b
  unfold cmpZ
  rw [show cmpI (upH h s a) (upH h s b) = cmpI (h a) (h b) from cmpI_up _ _ _]
theorem popR_up (h q : Nat → Int) (s : Int) (k : Nat) : ∀ st, popR (upH h s) q st k = popR h q st k
  | [] => rfl
  | [b] => rfl
  | b :: a :: r => by
    have ih := popR_up h q s k (a :: r)
    unfold popR
    rw [underB_up, ih]
theorem pushR_up (h q : Nat → Int) (s : Int) : pushR (upH h s) q = pushR h q := by
  funext st k
  cases st with
  | nil => rfl
  | cons b r =>
    show (if q b = q k then b :: r else k :: popR (upH h s) q (b :: r) k) = (if q b = q k then b :: r else k :: popR h q (b :: r) k)
    rw [popR_up]
theorem hullF_up (h q : Nat → Int) (s : Int) (n : Nat) : hullF (upH h s) q n = hullF h q n := by
  unfold hullF hullR orderF ltZ
  rw [pushR_up, cmpZ_up]
theorem red_up (a r s : Int) (hr : 1 ≤ r) : redN (a + s * r) r = redN a r + s * redD a r ∧ redD (a + s * r) r = redD a r := by
  have hg : Int.gcd (a + s * r) r = Int.gcd a r := by
    rw [Int.gcd_add_mul_right_left]
  unfold redN redD
  rw [hg]
  refine ⟨?_, rfl⟩
  rw [Int.add_ediv_of_dvd_right (Int.dvd_trans (Int.gcd_dvd_right a r) (Int.dvd_mul_left s r)), Int.mul_ediv_assoc s (Int.gcd_dvd_right a r)]
/-- A map that is raised by s. -/
structure UpM (m x : Rm) (s : Int) : Prop where
  n : x.n = m.n
  h : x.h = upH m.h s
  q : x.q = m.q
  u : x.u = m.u
section
variable {m x : Rm} {s : Int}
theorem UpM.sums (h : UpM m x s) (k : Nat) : x.sw k = m.sw k ∧ x.sq k = m.sq k := by
  unfold Rm.sw Rm.sq
  rw [h.u, h.q]
  exact ⟨rfl, rfl⟩
theorem UpM.nonneg (h : UpM m x s) : nonnegB x = nonnegB m := by
  funext i
  unfold nonnegB sideF
  rw [h.n, h.q, (h.sums _).1, (h.sums _).2]
theorem UpM.corner (h : UpM m x s) (l : List Nat) : cornerI x l = cornerI m l := by unfold cornerI; rw [h.nonneg]
theorem UpM.hull (h : UpM m x s) : hullF x.h x.q x.n = hullF m.h m.q m.n := by rw [h.h, h.q, h.n, hullF_up]
/-- The line is raised too. -/
theorem UpM.ref (h : UpM m x s) (hm : m.Ok) : refF x = ((((refF m).1.1.1 + s * (refF m).1.1.2, (refF m).1.1.2), (refF m).1.2), (refF m).2) := by
  by_cases h1 : (hullF m.h m.q m.n).length = 1
  · unfold refF
    rw [h.hull, if_pos h1, if_pos h1, h.h]
    simp [upH]
  · obtain ⟨za, zb, e1, e2, h3, h4, h5⟩ := corner_zones h1 hm
    unfold refF
    rw [h.hull, h.corner, if_neg h1, if_neg h1, e1, e2]
    unfold thrS thrV
    rw [h.h, h.q]
    have r := red_up (m.h za * (m.q zb - m.q za) - (m.h zb - m.h za) * m.q za) (m.q zb - m.q za) s (by omega)
    have ea : upH m.h s za * (m.q zb - m.q za) - (upH m.h s zb - upH m.h s za) * m.q za = m.h za * (m.q zb - m.q za) - (m.h zb - m.h za) * m.q za + s * (m.q zb - m.q za) := by
      unfold upH
      rw [show m.h zb + s - (m.h za + s) = m.h zb - m.h za by omega, Int.add_mul]
      omega
    have eb : upH m.h s zb - upH m.h s za = m.h zb - m.h za := by unfold upH; omega
    rw [ea, eb, r.1, r.2]
theorem UpM.rem (h : UpM m x s) (a b c d : Int) (z : Nat) : remN x (a + s * b) b c d z = remN m a b c d z := by
  unfold remN
  rw [h.h, h.q]
  unfold upH
  grind
theorem UpM.lsum (h : UpM m x s) (hm : m.Ok) (k : Nat) : lsumF x k = lsumF m k := by
  unfold lsumF
  rw [h.ref hm, h.u]
  exact sumN_congr fun i _ => by rw [h.rem]
theorem UpM.lwhole (h : UpM m x s) (hm : m.Ok) : Go.Proofs.Ytkfecbkcghmmhaa.lwhole x = Go.Proofs.Ytkfecbkcghmmhaa.lwhole m := by
  unfold Go.Proofs.Ytkfecbkcghmmhaa.lwhole
  rw [h.ref hm]
end
end Go.Proofs.Ytkfecbkcghmmhaa

end

section
/- What is known of the line of least removal of a right map, and of a map that is raised by the same everywhere. -/
namespace Go.Proofs.Ytkfecbkcghmmhaa
open Go Go.RowKit

/-- The line, its zones, the least sum. -/
structure LineIs (m : Rm) (a b c d : Int) (x y : Nat) (s sv : Int) : Prop where
  ref : refF m = (((a, b), (c, d)), (x, y))
  err : lineErr a b c d = 0
  acc : crefF m a b c d (x : Int) (y : Int) = (0, 0)
  ia : I64 a
  ib : I64 b
  ic : I64 c
  jd : I64 d
  ix : I64 (x : Int)
  iy : I64 (y : Int)
  num : redN (lsumF m m.n) (lwhole m) = s
  den : redD (lsumF m m.n) (lwhole m) = sv
  pos : 0 ≤ s
theorem line_is {m : Rm} (hok : m.Ok) (hw1 : 1 ≤ m.sw m.n) : ∃ a b c d x y s sv, LineIs m a b c d x y s sv := by
  have hro := ref_ok hok hw1
  have hri := (ref_in hok).1
  have hn2 := hok.n2
  obtain ⟨⟨⟨⟨a, b⟩, ⟨c, d⟩⟩, ⟨x, y⟩⟩, hrf⟩ : ∃ z, refF m = z := ⟨_, rfl⟩
  have hlf : ∀ k, lsumF m k = remS m a b c d k := fun k => by unfold lsumF remS; rw [hrf]
  have hlw : lwhole m = b * d := by unfold lwhole; rw [hrf]
  rw [hrf] at hro hri
  simp only at hro hri
  have hl := hri.ok
  have hL := line_of hl hro.ga hro.gc
  have hcr : crefF m a b c d (x : Int) (y : Int) = (0, 0) := cref_ok hro.up (within_mk (by omega) (by have := hro.x1; omega)) (within_mk (by omega) (by have := hro.y1; omega)) (by rw [Int.toNat_natCast]; exact hro.at1) (by rw [Int.toNat_natCast]; exact hro.at2) (by rw [Int.toNat_natCast]; exact hro.lo) (by rw [Int.toNat_natCast]; exact hro.hi)
  have hl0 : 0 ≤ lsumF m m.n := by
    have h1 := sumN_in m.n (f := fun i => m.u i * remN m a b c d i) (lo := 0) (hi := 1000000000000000) (fun i hi => by
      have h2 := hok.u i hi
      have h3 := hro.up i hi
      have h4 := (remR_in hok hri hi).2
      have := prod_small (x := m.u i) (y := remN m a b c d i) (X := 1000) (Y := 1000000000000) (by omega) (by omega) (by omega) (by omega)
      exact ⟨Int.mul_nonneg h2.1 h3, by omega⟩) m.n (Nat.le_refl _)
    rw [hlf]
    unfold remS
    omega
  have hw : 1 ≤ lwhole m := by rw [hlw]; exact (remR_in hok hri (show 0 < m.n from hok.n1)).1.1
  obtain ⟨m1, m2, -⟩ := redm_mul (a := lsumF m m.n) (b := lwhole m) (by omega)
  refine ⟨a, b, c, d, x, y, _, _, hrf, hL, hcr, ⟨by have := hl.a1; omega, by have := hl.a2; omega⟩, ⟨by have := hl.b1; omega, by have := hl.b2; omega⟩, ⟨by have := hl.c1; omega, by have := hl.c2; omega⟩, ⟨by have := hl.d1; omega, by have := hl.d2; omega⟩, ⟨by omega, by have := hro.x1; omega⟩, ⟨by omega, by have := hro.y1; omega⟩, rfl, rfl, ?_⟩
  refine nonneg_of (y := lwhole m) (by omega) ?_
  rw [m1]
  exact Int.mul_nonneg (by omega) hl0
/-- The list, raised. -/
def raiseL (l : List Int) : List Int := l.map fun z => z + 77
theorem raise_ok {hs qs us : List Int} (h : mapErr hs qs us = 0) (hb : ∀ z ∈ hs, -90000 ≤ z ∧ z ≤ 90000) : mapErr (raiseL hs) qs us = 0 := by
  have hl : (raiseL hs).length = hs.length := by unfold raiseL; rw [List.length_map]
  obtain ⟨h1, h2, h3, h4, h5⟩ := mapErr_ok h
  have hz : ∀ i, i < hs.length → zoneB (raiseL hs) qs us i = true := by
    intro i hi
    have h6 := h4 i hi
    unfold zoneB at h6 ⊢
    have hg : hs[i]? = some (hs[i]'hi) := List.getElem?_eq_getElem hi
    have e : (raiseL hs).getD i 0 = hs[i]'hi + 77 := by
      unfold raiseL
      rw [List.getD_eq_getElem?_getD, List.getElem?_map, hg]; rfl
    have hbi := hb _ (List.getElem_mem hi)
    rw [e]
    have e2 : hgtB (hs[i]'hi + 77) = true := (withinB_iff _ _ _).2 ⟨by omega, by omega⟩
    rw [e2]
    simp only [Bool.true_and]
    have h7 := h6
    rw [Bool.and_eq_true] at h7
    exact h7.2
  have := map_all (hs := raiseL hs) (qs := qs) (ws := us) (by rw [hl]; omega) (by rw [hl]; exact hz)
  rw [this, h5]
  simp
/-- The raised map in memory. -/
theorem raise_up {hs qs us : List Int} {n b1 o1 c1 b2 o2 c2 b3 o3 c3 b4 o4 c4 b5 o5 c5 b6 o6 c6 : Nat} {w : World} (hn : hs.length = n)
    (hat : RmAt (rmL n b4 o4 c4 b5 o5 c5 b6 o6 c6 (raiseL hs) qs us) w) (hok : (rmL n b4 o4 c4 b5 o5 c5 b6 o6 c6 (raiseL hs) qs us).Ok) (hck : CkOk (rmL n b4 o4 c4 b5 o5 c5 b6 o6 c6 (raiseL hs) qs us) w) :
    ∃ x : Rm, x.val = (rmL n b4 o4 c4 b5 o5 c5 b6 o6 c6 (raiseL hs) qs us).val ∧ x.n = n ∧ UpM (rmL n b1 o1 c1 b2 o2 c2 b3 o3 c3 hs qs us) x 77 ∧ x.Ok ∧ RmAt x w ∧ CkOk x w := by
  have e : ∀ i, i < n → (raiseL hs).getD i 0 = upH (fun i => hs.getD i 0) 77 i := by
    intro i hi
    have hg : hs[i]? = some (hs[i]'(by omega)) := List.getElem?_eq_getElem (by omega)
    unfold raiseL upH
    simp only
    rw [List.getD_eq_getElem?_getD, List.getElem?_map, hg, List.getD_eq_getElem?_getD, hg]; rfl
  refine ⟨⟨n, b4, o4, c4, b5, o5, c5, b6, o6, c6, upH (fun i => hs.getD i 0) 77, fun i => qs.getD i 0, fun i => us.getD i 0⟩, rfl, rfl, ⟨rfl, rfl, rfl, rfl⟩, ?_, ?_, hck⟩
  · exact ⟨hok.n1, hok.n2, fun i hi => by
      show -100000 ≤ upH (fun i => hs.getD i 0) 77 i ∧ upH (fun i => hs.getD i 0) 77 i ≤ 100000
      rw [← e i hi]; exact hok.h i hi, hok.q, hok.u⟩
  · exact ⟨hat.l1, hat.l2, hat.l3, fun i hi => by
      show w.cell? ⟨b4, o4 + i, none⟩ = some (.int .i64 (upH (fun i => hs.getD i 0) 77 i))
      rw [← e i hi]; exact hat.r1 i hi, hat.r2, hat.r3⟩
end Go.Proofs.Ytkfecbkcghmmhaa

end

section
/- The class of worlds of a region whose order is left open: two lists are appended to, and both new lists are stored into cells: 'p.a, q.b = append(p.a, x), append(q.b, y)'. -/
namespace Go.Proofs.Ytkfecbkcghmmhaa
open Go Go.RowKit

/-- AP: the class of the two lists; operations s1 and s2 store the new lists into the cells p1 and p2. -/
def ApS (AP : (Nat → Option Pick) → World → Prop) (s1 s2 : Nat) (p1 p2 : Addr) (v1 v2 : (Nat → Option Pick) → Value) (g : Nat → Option Pick) (f : Nat → Bool) (w' : World) : Prop :=
  ∃ w1, AP g w1 ∧ (f s1 = false → f s2 = false → w' = w1) ∧ (f s1 = true → f s2 = false → w' = w1.setCell p1 (v1 g)) ∧ (f s2 = true → w' = (w1.setCell p1 (v1 g)).setCell p2 (v2 g))
section
variable {AP : (Nat → Option Pick) → World → Prop} {s1 s2 k : Nat} {p1 p2 : Addr} {v1 v2 : (Nat → Option Pick) → Value} {g g' : Nat → Option Pick} {f : Nat → Bool} {w' w'' : World}
theorem ApS.start (h : AP g w') (h1 : f s1 = false) (h2 : f s2 = false) : ApS AP s1 s2 p1 p2 v1 v2 g f w' :=
  ⟨w', h, fun _ _ => rfl, fun e => (by rw [h1] at e; cases e), fun e => (by rw [h2] at e; cases e)⟩
theorem ApS.same (h : ApS AP s1 s2 p1 p2 v1 v2 g f w') (h1 : k ≠ s1) (h2 : k ≠ s2) : ApS AP s1 s2 p1 p2 v1 v2 g (Fx.add f k) w' := by
  obtain ⟨w1, a, b, c, d⟩ := h
  have e1 := add_ne' (f := f) h1
  have e2 := add_ne' (f := f) h2
  exact ⟨w1, a, by rw [e1, e2]; exact b, by rw [e1, e2]; exact c, by rw [e2]; exact d⟩
theorem ApS.early (h : ApS AP s1 s2 p1 p2 v1 v2 g f w') (h1 : f s1 = false) (h2 : f s2 = false) : AP g w' := by
  obtain ⟨w1, a, b, -, -⟩ := h
  rw [b h1 h2]
  exact a
theorem ApS.lift (h : AP g' w'') (h1 : f s1 = false) (h2 : f s2 = false) (k1 : k ≠ s1) (k2 : k ≠ s2) : ApS AP s1 s2 p1 p2 v1 v2 g' (Fx.add f k) w'' :=
  (ApS.start h h1 h2).same k1 k2
theorem ApS.store1 (h : ApS AP s1 s2 p1 p2 v1 v2 g f w') (h1 : f s1 = false) (h2 : f s2 = false) (h12 : s1 ≠ s2) : ApS AP s1 s2 p1 p2 v1 v2 g (Fx.add f s1) (w'.setCell p1 (v1 g)) := by
  have e2 := (add_ne' (f := f) h12).trans h2
  exact ⟨w', h.early h1 h2, fun e => (by rw [add_same] at e; cases e), fun _ _ => rfl, fun e => (by rw [e2] at e; cases e)⟩
theorem ApS.mid (h : ApS AP s1 s2 p1 p2 v1 v2 g f w') (h1 : f s1 = true) (h2 : f s2 = false) : ∃ w1, AP g w1 ∧ w' = w1.setCell p1 (v1 g) := by
  obtain ⟨w1, a, -, c, -⟩ := h
  exact ⟨w1, a, c h1 h2⟩
theorem ApS.store2 (h : ApS AP s1 s2 p1 p2 v1 v2 g f w') (h1 : f s1 = true) (h2 : f s2 = false) : ApS AP s1 s2 p1 p2 v1 v2 g (Fx.add f s2) (w'.setCell p2 (v2 g)) := by
  obtain ⟨w1, a, c⟩ := h.mid h1 h2
  subst c
  exact ⟨w1, a, fun _ e => (by rw [add_same] at e; cases e), fun _ e => (by rw [add_same] at e; cases e), fun _ => rfl⟩
theorem ApS.done (h : ApS AP s1 s2 p1 p2 v1 v2 g f w') (h2 : f s2 = true) : ∃ w1, AP g w1 ∧ w' = (w1.setCell p1 (v1 g)).setCell p2 (v2 g) := by
  obtain ⟨w1, a, -, -, d⟩ := h
  exact ⟨w1, a, d h2⟩
end
end Go.Proofs.Ytkfecbkcghmmhaa

end

section
/- Plain law of readings: arcs that a profile keeps never make a circle below 0: the search for one ends in time. -/
namespace Go.Proofs.Ytkfecbkcghmmhaa

/-- An arc: from, to, length. -/
abbrev Arc := Nat × Nat × Int
/-- Heights keep all arcs. -/
def KeepsA (p : Nat → Int) (ars : List Arc) : Prop := ∀ a ∈ ars, p a.2.1 - p a.1 ≤ a.2.2
def relax (H : Nat → Int) (a : Arc) : Nat → Int := fun v => if v = a.2.1 then H a.1 + a.2.2 else H v

/-- What holds in round r (from 1), ahead of arc j: chains of zones without repetition bear each height; a zone that changed in round q has a chain of more than q zones. -/
structure BfAt (n : Nat) (p : Nat → Int) (ars : List Arc) (r j : Nat) (H : Nat → Int) (ch : Bool) (c : Nat → List (Nat × Int)) (lc : Nat → Nat) : Prop where
  head : ∀ v, v < n → ∃ t, c v = (v, H v) :: t
  nodup : ∀ v, v < n → ((c v).map (·.1)).Nodup
  dom : ∀ v, v < n → ∀ x ∈ c v, x.1 < n
  above : ∀ v, v < n → ∀ x ∈ c v, H x.1 ≤ x.2
  sum : ∀ v, v < n → ∀ x ∈ c v, x.2 + p v - p x.1 ≤ H v
  len : ∀ v, v < n → lc v + 1 ≤ (c v).length
  rnd : ∀ v, v < n → lc v ≤ r
  arcs : ∀ i a, ars[i]? = some a → H a.2.1 ≤ H a.1 + a.2.2 ∨ (if i < j then lc a.1 = r else r ≤ lc a.1 + 1)
  chg : ch = true → ∃ v, v < n ∧ lc v = r
def Bf (n : Nat) (p : Nat → Int) (ars : List Arc) (r j : Nat) (H : Nat → Int) (ch : Bool) : Prop := ∃ c lc, BfAt n p ars r j H ch c lc

section
variable {n : Nat} {p : Nat → Int} {ars : List Arc} {r j : Nat} {H : Nat → Int} {ch : Bool}
theorem bf_start : Bf n p ars 1 0 (fun _ => 0) false :=
  ⟨fun v => [(v, 0)], fun _ => 0, fun v _ => ⟨[], rfl⟩, fun v _ => by simp, fun v hv x hx => by
    obtain rfl : x = (v, 0) := by simpa using hx
    exact hv, fun v _ x hx => by
    obtain rfl : x = (v, 0) := by simpa using hx
    exact Int.le_refl _, fun v _ x hx => by
    obtain rfl : x = (v, 0) := by simpa using hx
    simp only; omega, fun v _ => by simp, fun v _ => by omega, fun i a _ => .inr (by rw [if_neg (by omega)]; omega), fun h => by cases h⟩
theorem bf_keep {a : Arc} (h : Bf n p ars r j H ch) (ha : ars[j]? = some a) (hn : ¬ H a.1 + a.2.2 < H a.2.1) : Bf n p ars r (j + 1) H ch := by
  obtain ⟨c, lc, h⟩ := h
  refine ⟨c, lc, h.head, h.nodup, h.dom, h.above, h.sum, h.len, h.rnd, fun i b hb => ?_, h.chg⟩
  by_cases e : i = j
  · subst e
    obtain rfl := Option.some.inj (ha.symm.trans hb)
    exact .inl (by omega)
  · rcases h.arcs i b hb with h1 | h1
    · exact .inl h1
    · refine .inr ?_
      by_cases e2 : i < j
      · rw [if_pos e2] at h1
        rw [if_pos (by omega)]
        exact h1
      · rw [if_neg e2] at h1
        rw [if_neg (by omega)]
        exact h1
theorem bf_relax {a : Arc} (hk : KeepsA p ars) (h : Bf n p ars r j H ch) (ha : ars[j]? = some a) (h1 : a.1 < n) (h2 : a.2.1 < n) (hl : H a.1 + a.2.2 < H a.2.1) : Bf n p ars r (j + 1) (relax H a) true := by
  obtain ⟨c, lc, h⟩ := h
  obtain ⟨u, v, len⟩ := a
  simp only at h1 h2 hl
  have hkp : p v - p u ≤ len := hk _ (List.mem_of_getElem? ha)
  have huv : u ≠ v := fun e => by subst e; omega
  have hR : r ≤ lc u + 1 := by
    rcases h.arcs j _ ha with h3 | h3
    · simp only at h3; omega
    · rw [if_neg (by omega)] at h3; exact h3
  obtain ⟨t, ht⟩ := h.head u h1
  have hnotin : ∀ x ∈ c u, x.1 ≠ v := fun x hx e => by
    have a1 := h.above u h1 x hx
    have a2 := h.sum u h1 x hx
    rw [e] at a1 a2
    omega
  have hrv : relax H (u, v, len) v = H u + len := by unfold relax; simp
  have hrn : ∀ x, x ≠ v → relax H (u, v, len) x = H x := fun x hx => by unfold relax; simp [hx]
  have hle : ∀ x, relax H (u, v, len) x ≤ H x := fun x => by
    by_cases e : x = v
    · subst e; rw [hrv]; omega
    · rw [hrn x e]; exact Int.le_refl _
  have ec : ∀ x, (if x = v then (v, H u + len) :: c u else c x) = if x = v then (v, H u + len) :: c u else c x := fun _ => rfl
  refine ⟨fun x => if x = v then (v, H u + len) :: c u else c x, fun x => if x = v then r else lc x, ?_, ?_, ?_, ?_, ?_, ?_, ?_, ?_, ?_⟩
  · intro x hx
    by_cases e : x = v
    · subst e; exact ⟨c u, by rw [if_pos rfl, hrv]⟩
    · obtain ⟨t', ht'⟩ := h.head x hx
      exact ⟨t', by rw [if_neg e, hrn x e]; exact ht'⟩
  · intro x hx
    by_cases e : x = v
    · simp only [if_pos e, List.map_cons, List.nodup_cons]
      refine ⟨fun hm => ?_, h.nodup u h1⟩
      obtain ⟨y, hy, hy2⟩ := List.mem_map.1 hm
      exact hnotin y hy hy2
    · simp only [if_neg e]; exact h.nodup x hx
  · intro x hx y hy
    by_cases e : x = v
    · simp only [if_pos e] at hy
      rcases List.mem_cons.1 hy with rfl | hy
      · exact h2
      · exact h.dom u h1 y hy
    · simp only [if_neg e] at hy; exact h.dom x hx y hy
  · intro x hx y hy
    by_cases e : x = v
    · simp only [if_pos e] at hy
      rcases List.mem_cons.1 hy with rfl | hy
      · show relax H (u, v, len) v ≤ H u + len
        rw [hrv]; exact Int.le_refl _
      · exact Int.le_trans (hle _) (h.above u h1 y hy)
    · simp only [if_neg e] at hy; exact Int.le_trans (hle _) (h.above x hx y hy)
  · intro x hx y hy
    by_cases e : x = v
    · simp only [if_pos e] at hy
      subst e
      rw [hrv]
      rcases List.mem_cons.1 hy with rfl | hy
      · simp only; omega
      · have := h.sum u h1 y hy; omega
    · simp only [if_neg e] at hy
      rw [hrn x e]
      exact h.sum x hx y hy
  · intro x hx
    by_cases e : x = v
    · simp only [if_pos e, List.length_cons]
      have := h.len u h1
      omega
    · simp only [if_neg e]; exact h.len x hx
  · intro x hx
    by_cases e : x = v
    · simp only [if_pos e]; exact Nat.le_refl _
    · simp only [if_neg e]; exact h.rnd x hx
  · intro i b hb
    obtain ⟨u', v', len'⟩ := b
    simp only
    by_cases eu : u' = v
    · refine .inr ?_
      simp only [if_pos eu]
      split
      · first | rfl | trivial
      · omega
    · simp only [if_neg eu]
      by_cases e : i = j
      · subst e
        have e3 : (u, v, len) = (u', v', len') := Option.some.inj (ha.symm.trans hb)
        obtain ⟨rfl, rfl, rfl⟩ : u = u' ∧ v = v' ∧ len = len' := by simpa using e3
        refine .inl ?_
        rw [hrv, hrn u huv]
        exact Int.le_refl _
      · rcases h.arcs i _ hb with h3 | h3
        · simp only at h3
          refine .inl ?_
          rw [hrn u' eu]
          exact Int.le_trans (hle _) h3
        · refine .inr ?_
          simp only at h3
          by_cases e2 : i < j
          · rw [if_pos e2] at h3
            rw [if_pos (by omega)]
            exact h3
          · rw [if_neg e2] at h3
            rw [if_neg (by omega)]
            exact h3
  · exact fun _ => ⟨v, h2, by simp⟩
theorem bf_round (h : Bf n p ars r ars.length H ch) : Bf n p ars (r + 1) 0 H false := by
  obtain ⟨c, lc, h⟩ := h
  refine ⟨c, lc, h.head, h.nodup, h.dom, h.above, h.sum, h.len, fun v hv => Nat.le_succ_of_le (h.rnd v hv), fun i a ha => ?_, fun e => by cases e⟩
  have hi := (List.getElem?_eq_some_iff.1 ha).1
  rcases h.arcs i a ha with h1 | h1
  · exact .inl h1
  · rw [if_pos hi] at h1
    exact .inr (by rw [if_neg (by omega)]; omega)
theorem nodup_len : ∀ (n : Nat) (l : List Nat), l.Nodup → (∀ x ∈ l, x < n) → l.length ≤ n
  | 0, l, _, h => by
    cases l with
    | nil => exact Nat.le_refl _
    | cons x t => exact absurd (h x (by simp)) (by omega)
  | n + 1, l, hd, h => by
    by_cases hn : n ∈ l
    · have h1 := nodup_len n (l.erase n) (hd.erase n) (fun x hx => by
        obtain ⟨a, b⟩ := hd.mem_erase_iff.1 hx
        have := h x b
        omega)
      rw [List.length_erase_of_mem hn] at h1
      omega
    · have h1 := nodup_len n l hd (fun x hx => by
        have := h x hx
        have : x ≠ n := fun e => hn (e ▸ hx)
        omega)
      omega
/-- A round in which something changed is not the last one. -/
theorem bf_end (h : Bf n p ars r j H true) : r + 1 ≤ n := by
  obtain ⟨c, lc, h⟩ := h
  obtain ⟨v, hv, hl⟩ := h.chg rfl
  have h1 := h.len v hv
  have h2 := nodup_len n ((c v).map (·.1)) (h.nodup v hv) (fun x hx => by
    obtain ⟨y, hy, rfl⟩ := List.mem_map.1 hx
    exact h.dom v hv y hy)
  rw [List.length_map] at h2
  omega
end
end Go.Proofs.Ytkfecbkcghmmhaa

end
