import Derived.Test.YtmejiafmmmeloaaQ11
import Derived.Test.YtmejiafmmmeloaaQ4

section
/- Contracts of chapter 6: lowest terms, the sums of a map, the line through two zones, the removal of a zone. -/
namespace Go.Proofs.Ytmejiafmmmeloaa
open Go Go.RowKit

theorem lowestfig_is (a b x y : Int) (hx : redN a b = x) (hy : redD a b = y) (w : World) (h1 : -9223372036854775808 < a) (h2 : a ≤ 9223372036854775807) (h3 : 1 ≤ b) (h4 : b ≤ 9223372036854775807) :
    Calls Try.prog 27 #[.int .i64 a, .int .i64 b] w fun e w' => e = .returned (.agg #[.int .i64 x, .int .i64 y]) ∧ Below w.heap.size w w' := by
  have hg := gcd_small a b h3 h4
  have hg1 : 1 ≤ (Int.gcd a b : Int) := by have := Int.gcd_pos_of_ne_zero_right a (show b ≠ 0 by omega); omega
  have e1 : a.tdiv (Int.gcd a b : Int) = x := by rw [tdiv_gcd_left]; exact hx
  have e2 : b.tdiv (Int.gcd a b : Int) = y := by rw [tdiv_gcd_right]; exact hy
  obtain ⟨g, hgg⟩ : ∃ g : Int, (Int.gcd a b : Int) = g := ⟨_, rfl⟩
  have hga := div_gcd_in a b h1 h2 (by omega)
  have hgb := div_gcd_in b a (by omega) h4 (by rw [Int.gcd_comm]; omega)
  rw [Int.gcd_comm b a] at hgb
  have hx2 : a / (Int.gcd a b : Int) = x := hx
  have hy2 : b / (Int.gcd a b : Int) = y := hy
  rw [hx2] at hga
  rw [hy2] at hgb
  rw [hgg] at hg hg1 e1 e2
  have hg0 : ¬ g = 0 := by omega
  have hv1 := IntWalk.i64_in x ⟨by omega, by omega⟩
  have hv2 := IntWalk.i64_in y ⟨by omega, by omega⟩
  have HG := Lib.hid hg
  have HGG := Lib.hid hgg
  have hc : ∀ w', Calls Try.prog 43 #[.int .i64 a, .int .i64 b] w' fun e w'' => e = .returned (.int .i64 g) ∧ ∃ n, w'' = w'.drewN n := fun w' => by
    have := gcdfig_any a b w' (by omega) h2 (by omega) h4
    rw [HGG.out, HG.out] at this
    exact this
  have HC := Lib.hid hc
  clear hx hy hg hgg hga hgb hx2 hy2 hc
  go_enter Try.func27, Try.ntmps27
  go_wp2_with fail
  refine (HC.out _).mono ?_
  rintro e w1 ⟨rfl, q, rfl⟩
  go_wp2_with fail
  go_region
  all_goals go_wp2
  all_goals exact bodyPost_ret (v := .agg #[.int .i64 x, .int .i64 y]) (by simp [results, Try.results27, go_sem]) rfl ⟨rfl, by repeat' (first | exact Below.refl _ _ | refine below_drewN ?_ _ | refine Below.drew ?_ | refine Below.alloc ?_ (by first | omega | (simp; done) | (simp; omega) | (simp [World.setCell]; omega)) _ | refine Below.setCell ?_ (by first | omega | (simp; done) | (simp; omega)) _ | assumption)⟩

def sumN (f : Nat → Int) : Nat → Int
  | 0 => 0
  | k + 1 => sumN f k + f k
theorem sumN_in {f : Nat → Int} {lo hi : Int} (n : Nat) (h : ∀ i, i < n → lo ≤ f i ∧ f i ≤ hi) : ∀ k, k ≤ n → (k : Int) * lo ≤ sumN f k ∧ sumN f k ≤ (k : Int) * hi
  | 0, _ => by simp [sumN]
  | k + 1, hk => by
    have h1 := sumN_in n h k (by omega)
    have h2 := h k (by omega)
    have e1 : ((k + 1 : Nat) : Int) * lo = (k : Int) * lo + lo := by push_cast; rw [Int.add_mul, Int.one_mul]
    have e2 : ((k + 1 : Nat) : Int) * hi = (k : Int) * hi + hi := by push_cast; rw [Int.add_mul, Int.one_mul]
    show (_ : Int) ≤ sumN f k + f k ∧ sumN f k + f k ≤ _
    rw [e1, e2]
    omega
def Rm.sw (m : Rm) (k : Nat) : Int := sumN m.u k
def Rm.sq (m : Rm) (k : Nat) : Int := sumN (fun i => m.u i * m.q i) k
def Rm.sh (m : Rm) (k : Nat) : Int := sumN (fun i => m.u i * m.h i) k
theorem Rm.Ok.sums {m : Rm} (hm : m.Ok) {k : Nat} (hk : k ≤ m.n) : (0 ≤ m.sw k ∧ m.sw k ≤ 40000) ∧ (0 ≤ m.sq k ∧ m.sq k ≤ 40000000) ∧ (-4000000000 ≤ m.sh k ∧ m.sh k ≤ 4000000000) := by
  have hn := hm.n2
  have h1 := sumN_in m.n hm.u k hk
  have h2 := sumN_in m.n (f := fun i => m.u i * m.q i) (lo := 0) (hi := 1000000) (fun i hi => by
    have a := hm.u i hi
    have b := hm.q i hi
    have := Int.mul_nonneg a.1 b.1
    have := Int.mul_le_mul a.2 b.2 b.1 (by omega)
    exact ⟨by assumption, by omega⟩) k hk
  have h3 := sumN_in m.n (f := fun i => m.u i * m.h i) (lo := -100000000) (hi := 100000000) (fun i hi => by
    have a := hm.u i hi
    have b := hm.h i hi
    have := prod_small (x := m.u i) (y := m.h i) (X := 1000) (Y := 100000) (by omega) (by omega) (by omega) (by omega)
    exact ⟨by omega, by omega⟩) k hk
  unfold Rm.sw Rm.sq Rm.sh
  omega

set_option maxRecDepth 100000 in
set_option maxHeartbeats 4000000 in
theorem sumsof_any (m : Rm) (hm : m.Ok) (w : World) (hx : RmAt m w) : Calls Try.prog 38 #[m.val] w fun e w' => e = .returned (.agg #[.int .i64 (m.sw m.n), .int .i64 (m.sq m.n), .int .i64 (m.sh m.n)]) ∧ Below w.heap.size w w' := by
  have hn2 := hm.n2
  have HX := Lib.hid hx
  have HM := Lib.hid hm
  have l1 := hx.l1
  have l2 := hx.l2
  have l3 := hx.l3
  clear hx hm
  unfold Rm.val
  go_enter Try.func38, Try.ntmps38
  go_wp2
  generalize hwn : (((w.alloc (.cells #[.slice (some ⟨m.b1, m.o1, none⟩) m.n m.c1, .slice (some ⟨m.b2, m.o2, none⟩) m.n m.c2, .slice (some ⟨m.b3, m.o3, none⟩) m.n m.c3] 38)).alloc (.cells #[.int .i64 (0), .int .i64 (0), .int .i64 (0)] 77)).alloc (.cells #[.int .i64 (0), .int .i64 (0), .int .i64 (0)] 77)) = w1
  have hbn : Below w.heap.size w w1 := by rw [← hwn]; repeat' (first | exact Below.refl _ _ | refine below_drewN ?_ _ | refine Below.drew ?_ | refine Below.alloc ?_ (by first | omega | (simp; done) | (simp; omega) | (simp [World.setCell]; omega)) _ | refine Below.setCell ?_ (by first | omega | (simp; done) | (simp; omega)) _)
  have HB1 := Lib.hid (show Below w.heap.size w w1 from hbn)
  have K0_1 := Lib.hid (show Blk w1 (w.heap.size) 38 #[.slice (some ⟨m.b1, m.o1, none⟩) m.n m.c1, .slice (some ⟨m.b2, m.o2, none⟩) m.n m.c2, .slice (some ⟨m.b3, m.o3, none⟩) m.n m.c3] by rw [← hwn]; repeat' (first | exact Blk.at_ _ (by first | rfl | (simp; done) | (simp; omega)) _ _ | refine Blk.drewN ?_ _ | refine Blk.drew ?_ | refine Blk.alloc ?_ _ | refine Blk.far ?_ (by first | omega | (simp; done) | (simp; omega)) _ | assumption))
  have K1_1 := Lib.hid (show Blk w1 (w.heap.size + 1) 77 #[.int .i64 (0), .int .i64 (0), .int .i64 (0)] by rw [← hwn]; repeat' (first | exact Blk.at_ _ (by first | rfl | (simp; done) | (simp; omega)) _ _ | refine Blk.drewN ?_ _ | refine Blk.drew ?_ | refine Blk.alloc ?_ _ | refine Blk.far ?_ (by first | omega | (simp; done) | (simp; omega)) _ | assumption))
  have K2_1 := Lib.hid (show Blk w1 (w.heap.size + 1 + 1) 77 #[.int .i64 (0), .int .i64 (0), .int .i64 (0)] by rw [← hwn]; repeat' (first | exact Blk.at_ _ (by first | rfl | (simp; done) | (simp; omega)) _ _ | refine Blk.drewN ?_ _ | refine Blk.drew ?_ | refine Blk.alloc ?_ _ | refine Blk.far ?_ (by first | omega | (simp; done) | (simp; omega)) _ | assumption))
  have HN1 := Lib.hid hbn
  have hz1 := hbn.size
  clear hwn hbn
  have l0_1 : w.heap.size < w1.heap.size := K0_1.out.lt
  have z0_0_1 : w1.cell? ⟨w.heap.size, 0, none⟩ = some (.slice (some ⟨m.b1, m.o1, none⟩) m.n m.c1) := K0_1.out.cell 0
  have z0_1_1 : w1.cell? ⟨w.heap.size, 1, none⟩ = some (.slice (some ⟨m.b2, m.o2, none⟩) m.n m.c2) := K0_1.out.cell 1
  have z0_2_1 : w1.cell? ⟨w.heap.size, 2, none⟩ = some (.slice (some ⟨m.b3, m.o3, none⟩) m.n m.c3) := K0_1.out.cell 2
  have l1_1 : w.heap.size + 1 < w1.heap.size := K1_1.out.lt
  have z1_0_1 : w1.cell? ⟨w.heap.size + 1, 0, none⟩ = some (.int .i64 (0)) := K1_1.out.cell 0
  have z1_1_1 : w1.cell? ⟨w.heap.size + 1, 1, none⟩ = some (.int .i64 (0)) := K1_1.out.cell 1
  have z1_2_1 : w1.cell? ⟨w.heap.size + 1, 2, none⟩ = some (.int .i64 (0)) := K1_1.out.cell 2
  have l2_1 : w.heap.size + 1 + 1 < w1.heap.size := K2_1.out.lt
  have z2_0_1 : w1.cell? ⟨w.heap.size + 1 + 1, 0, none⟩ = some (.int .i64 (0)) := K2_1.out.cell 0
  have z2_1_1 : w1.cell? ⟨w.heap.size + 1 + 1, 1, none⟩ = some (.int .i64 (0)) := K2_1.out.cell 1
  have z2_2_1 : w1.cell? ⟨w.heap.size + 1 + 1, 2, none⟩ = some (.int .i64 (0)) := K2_1.out.cell 2
  have hs1 := HB1.out.size
  go_loopw [9] (fun i wr => ∃ k : Nat, k ≤ m.n ∧ i = .int .i64 k ∧ w1.grownBy wr (some (w.heap.size + 1 + 1)) ∧ Blk wr (w.heap.size + 1 + 1) 77 #[.int .i64 (m.sw k), .int .i64 (m.sq k), .int .i64 (m.sh k)]) (fun i _ => m.n - (intOf i).toNat)
  case atStart => exact ⟨0, by omega, rfl, World.grownBy.refl _ _, K2_1.out⟩
  case round =>
    obtain ⟨k, hk, rfl, hg, hbk⟩ := hrel
    obtain ⟨w2, hnm⟩ : ∃ z : World, z = wr := ⟨_, rfl⟩
    subst hnm
    have hb2 : Below w.heap.size w w2 := HB1.out.trans (grown_below hg (by omega) (by omega))
    have k0 := K0_1.out.grown hg (fun e => by have := Option.some.inj e; omega)
    have k1 := K1_1.out.grown hg (fun e => by have := Option.some.inj e; omega)
    have HG := Lib.hid hg
    have HBK := Lib.hid hbk
    have HXA := Lib.hid (HX.out.lay hb2)
    have HB2 := Lib.hid hb2
    have K0_2 := Lib.hid (show Blk w2 (w.heap.size) 38 #[.slice (some ⟨m.b1, m.o1, none⟩) m.n m.c1, .slice (some ⟨m.b2, m.o2, none⟩) m.n m.c2, .slice (some ⟨m.b3, m.o3, none⟩) m.n m.c3] from k0)
    have K1_2 := Lib.hid (show Blk w2 (w.heap.size + 1) 77 #[.int .i64 (0), .int .i64 (0), .int .i64 (0)] from k1)
    have K2_2 := Lib.hid (show Blk w2 (w.heap.size + 1 + 1) 77 #[.int .i64 (m.sw k), .int .i64 (m.sq k), .int .i64 (m.sh k)] from hbk)
    clear hb2 k0 k1 hbk
    have l0_2 : w.heap.size < w2.heap.size := K0_2.out.lt
    have z0_0_2 : w2.cell? ⟨w.heap.size, 0, none⟩ = some (.slice (some ⟨m.b1, m.o1, none⟩) m.n m.c1) := K0_2.out.cell 0
    have z0_1_2 : w2.cell? ⟨w.heap.size, 1, none⟩ = some (.slice (some ⟨m.b2, m.o2, none⟩) m.n m.c2) := K0_2.out.cell 1
    have z0_2_2 : w2.cell? ⟨w.heap.size, 2, none⟩ = some (.slice (some ⟨m.b3, m.o3, none⟩) m.n m.c3) := K0_2.out.cell 2
    have l1_2 : w.heap.size + 1 < w2.heap.size := K1_2.out.lt
    have z1_0_2 : w2.cell? ⟨w.heap.size + 1, 0, none⟩ = some (.int .i64 (0)) := K1_2.out.cell 0
    have z1_1_2 : w2.cell? ⟨w.heap.size + 1, 1, none⟩ = some (.int .i64 (0)) := K1_2.out.cell 1
    have z1_2_2 : w2.cell? ⟨w.heap.size + 1, 2, none⟩ = some (.int .i64 (0)) := K1_2.out.cell 2
    have l2_2 : w.heap.size + 1 + 1 < w2.heap.size := K2_2.out.lt
    have z2_0_2 : w2.cell? ⟨w.heap.size + 1 + 1, 0, none⟩ = some (.int .i64 (m.sw k)) := K2_2.out.cell 0
    have z2_1_2 : w2.cell? ⟨w.heap.size + 1 + 1, 1, none⟩ = some (.int .i64 (m.sq k)) := K2_2.out.cell 1
    have z2_2_2 : w2.cell? ⟨w.heap.size + 1 + 1, 2, none⟩ = some (.int .i64 (m.sh k)) := K2_2.out.cell 2
    clear hg
    by_cases hlt : k < m.n
    rotate_left
    · obtain rfl : k = m.n := by omega
      have zf1_0 := K1_2.out.frozen 0
      have zf1_1 := K1_2.out.frozen 1
      have zf1_2 := K1_2.out.frozen 2
      go_wp2
      exact bodyPost_ret (v := .agg #[.int .i64 (m.sw m.n), .int .i64 (m.sq m.n), .int .i64 (m.sh m.n)]) (by simp [results, Try.results38, go_sem, z1_0_2, z1_1_2, z1_2_2, l1_2]) rfl ⟨rfl, by repeat' (first | exact Below.refl _ _ | exact HB2.out | refine below_drewN ?_ _ | refine Below.drew ?_ | refine Below.alloc ?_ (by first | omega | (simp; done) | (simp; omega) | (simp [World.setCell]; omega)) _ | refine Below.setCell ?_ (by first | omega | (simp; done) | (simp; omega)) _ | assumption)⟩
    obtain ⟨a1, a2, a3⟩ := HM.out.sums (k := k) (by omega)
    obtain ⟨b1, b2, b3⟩ := HM.out.sums (k := k + 1) (by omega)
    have r1 := HM.out.h k hlt
    have r2 := HM.out.q k hlt
    have r3 := HM.out.u k hlt
    have d1 := HXA.out.r1 k hlt
    have d2 := HXA.out.r2 k hlt
    have d3 := HXA.out.r3 k hlt
    have hkk : (k : Int) < (m.n : Int) := by omega
    have e1 : IntKind.i64.wrap (m.sw k + m.u k) = m.sw (k + 1) := IntWalk.i64_in (m.sw (k + 1)) ⟨by omega, by omega⟩
    have p2 := prod_small (x := m.u k) (y := m.q k) (X := 1000) (Y := 1000) (by omega) (by omega) (by omega) (by omega)
    have p3 := prod_small (x := m.u k) (y := m.h k) (X := 1000) (Y := 100000) (by omega) (by omega) (by omega) (by omega)
    have e2 := IntWalk.i64_in (m.u k * m.q k) ⟨by omega, by omega⟩
    have e3 : IntKind.i64.wrap (m.sq k + m.u k * m.q k) = m.sq (k + 1) := IntWalk.i64_in (m.sq (k + 1)) ⟨by omega, by omega⟩
    have e4 := IntWalk.i64_in (m.u k * m.h k) ⟨by omega, by omega⟩
    have e5 : IntKind.i64.wrap (m.sh k + m.u k * m.h k) = m.sh (k + 1) := IntWalk.i64_in (m.sh (k + 1)) ⟨by omega, by omega⟩
    go_wp2
    obtain ⟨W0, hW0⟩ : ∃ W0, W0 = w2.drewN 1 := ⟨_, rfl⟩
    have HW0 := Lib.hid hW0
    have m1 : W0.cell? ⟨w.heap.size + 1 + 1, 0, none⟩ = some (.int .i64 (m.sw k)) := by rw [hW0]; exact z2_0_2
    have m2 : W0.cell? ⟨w.heap.size + 1 + 1, 1, none⟩ = some (.int .i64 (m.sq k)) := by rw [hW0]; exact z2_1_2
    have m3 : W0.cell? ⟨w.heap.size + 1 + 1, 2, none⟩ = some (.int .i64 (m.sh k)) := by rw [hW0]; exact z2_2_2
    have m4 : W0.cell? ⟨w.heap.size, 0, none⟩ = some (.slice (some ⟨m.b1, m.o1, none⟩) m.n m.c1) := by rw [hW0]; exact z0_0_2
    have m5 : W0.cell? ⟨w.heap.size, 1, none⟩ = some (.slice (some ⟨m.b2, m.o2, none⟩) m.n m.c2) := by rw [hW0]; exact z0_1_2
    have m6 : W0.cell? ⟨m.b1, m.o1 + k, none⟩ = some (.int .i64 (m.h k)) := by rw [hW0]; exact d1
    have m7 : W0.cell? ⟨m.b2, m.o2 + k, none⟩ = some (.int .i64 (m.q k)) := by rw [hW0]; exact d2
    have g0 : ∀ i, W0.frozen? ⟨w.heap.size + 1 + 1, i, none⟩ = false := fun i => by rw [hW0]; exact K2_2.out.frozen i
    have g1 := g0 0
    have g2 := g0 1
    have g3 := g0 2
    clear g0 d1 d2 d3 z2_0_2 z2_1_2 z2_2_2 z0_0_2 z0_1_2 z0_2_2
    refine Fx.region (fun f w' => (f 25 = false → w' = W0) ∧ (f 25 = true → f 27 = false → w' = (W0.setCell ⟨w.heap.size + 1 + 1, 0, none⟩ (.int .i64 (m.sw (k + 1))))) ∧ (f 27 = true → f 29 = false → w' = ((W0.setCell ⟨w.heap.size + 1 + 1, 0, none⟩ (.int .i64 (m.sw (k + 1)))).setCell ⟨w.heap.size + 1 + 1, 1, none⟩ (.int .i64 (m.sq (k + 1))))) ∧ (f 29 = true → w' = (((W0.setCell ⟨w.heap.size + 1 + 1, 0, none⟩ (.int .i64 (m.sw (k + 1)))).setCell ⟨w.heap.size + 1 + 1, 1, none⟩ (.int .i64 (m.sq (k + 1)))).setCell ⟨w.heap.size + 1 + 1, 2, none⟩ (.int .i64 (m.sh (k + 1))))) ∧ (∀ p : Addr, p.block ≠ w.heap.size + 1 + 1 → w'.cell? p = W0.cell? p)) (by kernel_rfl) (by kernel_rfl) ?_ ?_
    · intro f hf0
      exact ⟨fun _ => hW0.symm, fun h => by rw [hf0 25] at h; (cases h), fun h => by rw [hf0 27] at h; (cases h), fun h => by rw [hf0 29] at h; (cases h), fun p _ => by rw [hW0]⟩
    clear hW0
    iterate 1 (first
      | (refine Fx.skip_ (by rfl) (fun f w h => h) ?_; simp only [Act.put, List.setIfInBounds_toArray, List.set_cons_zero, List.set_cons_succ])
      | (refine Fx.val_ ?_ (by rfl) ?_ (fun f w h => h) ?_
         rotate_left
         · intro f w' hD hk
           obtain ⟨jw, j2, j3, j4, j5⟩ := id hD
           clear hk hD jw j2 j3 j4 j5
           go_simp
           try rfl
         simp only [Act.put, List.setIfInBounds_toArray, List.set_cons_zero, List.set_cons_succ]))
    refine Fx.val_ ?_ (by rfl) ?_ (fun f w h => h) ?_
    rotate_left
    · intro f w' hD hk
      obtain ⟨jw, j2, j3, j4, j5⟩ := id hD
      have jw := jw (hk.2.1 25 (by kernel_rfl))
      have q0 : w'.cell? ⟨w.heap.size + 1 + 1, 0, none⟩ = some (.int .i64 (m.sw k)) := by rw [jw]; exact m1
      clear hk hD jw j2 j3 j4 j5
      go_simp
      try rfl
    simp only [Act.put, List.setIfInBounds_toArray, List.set_cons_zero, List.set_cons_succ]
    iterate 3 (first
      | (refine Fx.skip_ (by rfl) (fun f w h => h) ?_; simp only [Act.put, List.setIfInBounds_toArray, List.set_cons_zero, List.set_cons_succ])
      | (refine Fx.val_ ?_ (by rfl) ?_ (fun f w h => h) ?_
         rotate_left
         · intro f w' hD hk
           obtain ⟨jw, j2, j3, j4, j5⟩ := id hD
           clear hk hD jw j2 j3 j4 j5
           go_simp
           try rfl
         simp only [Act.put, List.setIfInBounds_toArray, List.set_cons_zero, List.set_cons_succ]))
    refine Fx.val_ ?_ (by rfl) ?_ (fun f w h => h) ?_
    rotate_left
    · intro f w' hD hk
      obtain ⟨jw, j2, j3, j4, j5⟩ := id hD
      have jw := jw (hk.2.1 25 (by kernel_rfl))
      have q0 : w'.cell? ⟨w.heap.size + 1 + 1, 1, none⟩ = some (.int .i64 (m.sq k)) := by rw [jw]; exact m2
      clear hk hD jw j2 j3 j4 j5
      go_simp
      try rfl
    simp only [Act.put, List.setIfInBounds_toArray, List.set_cons_zero, List.set_cons_succ]
    iterate 9 (first
      | (refine Fx.skip_ (by rfl) (fun f w h => h) ?_; simp only [Act.put, List.setIfInBounds_toArray, List.set_cons_zero, List.set_cons_succ])
      | (refine Fx.val_ ?_ (by rfl) ?_ (fun f w h => h) ?_
         rotate_left
         · intro f w' hD hk
           obtain ⟨jw, j2, j3, j4, j5⟩ := id hD
           have q4 : w'.cell? ⟨w.heap.size, 0, none⟩ = some (.slice (some ⟨m.b1, m.o1, none⟩) m.n m.c1) := (j5 _ (by show w.heap.size ≠ _; omega)).trans m4
           have q5 : w'.cell? ⟨w.heap.size, 1, none⟩ = some (.slice (some ⟨m.b2, m.o2, none⟩) m.n m.c2) := (j5 _ (by show w.heap.size ≠ _; omega)).trans m5
           have q6 : w'.cell? ⟨m.b1, m.o1 + k, none⟩ = some (.int .i64 (m.h k)) := (j5 _ (by show m.b1 ≠ _; omega)).trans m6
           have q7 : w'.cell? ⟨m.b2, m.o2 + k, none⟩ = some (.int .i64 (m.q k)) := (j5 _ (by show m.b2 ≠ _; omega)).trans m7
           clear hk hD jw j2 j3 j4 j5
           go_simp
           try rfl
         simp only [Act.put, List.setIfInBounds_toArray, List.set_cons_zero, List.set_cons_succ]))
    refine Fx.val_ ?_ (by rfl) ?_ (fun f w h => h) ?_
    rotate_left
    · intro f w' hD hk
      obtain ⟨jw, j2, j3, j4, j5⟩ := id hD
      have jw := jw (hk.2.1 25 (by kernel_rfl))
      have q0 : w'.cell? ⟨w.heap.size + 1 + 1, 2, none⟩ = some (.int .i64 (m.sh k)) := by rw [jw]; exact m3
      clear hk hD jw j2 j3 j4 j5
      go_simp
      try rfl
    simp only [Act.put, List.setIfInBounds_toArray, List.set_cons_zero, List.set_cons_succ]
    iterate 9 (first
      | (refine Fx.skip_ (by rfl) (fun f w h => h) ?_; simp only [Act.put, List.setIfInBounds_toArray, List.set_cons_zero, List.set_cons_succ])
      | (refine Fx.val_ ?_ (by rfl) ?_ (fun f w h => h) ?_
         rotate_left
         · intro f w' hD hk
           obtain ⟨jw, j2, j3, j4, j5⟩ := id hD
           have q4 : w'.cell? ⟨w.heap.size, 0, none⟩ = some (.slice (some ⟨m.b1, m.o1, none⟩) m.n m.c1) := (j5 _ (by show w.heap.size ≠ _; omega)).trans m4
           have q5 : w'.cell? ⟨w.heap.size, 1, none⟩ = some (.slice (some ⟨m.b2, m.o2, none⟩) m.n m.c2) := (j5 _ (by show w.heap.size ≠ _; omega)).trans m5
           have q6 : w'.cell? ⟨m.b1, m.o1 + k, none⟩ = some (.int .i64 (m.h k)) := (j5 _ (by show m.b1 ≠ _; omega)).trans m6
           have q7 : w'.cell? ⟨m.b2, m.o2 + k, none⟩ = some (.int .i64 (m.q k)) := (j5 _ (by show m.b2 ≠ _; omega)).trans m7
           clear hk hD jw j2 j3 j4 j5
           go_simp
           try rfl
         simp only [Act.put, List.setIfInBounds_toArray, List.set_cons_zero, List.set_cons_succ]))
    refine Fx.store_ (fun w' => w'.setCell ⟨w.heap.size + 1 + 1, 0, none⟩ (.int .i64 (m.sw (k + 1)))) (by rfl) ?_ ?_ ?_
    · intro f w' hD hk
      obtain ⟨jw, j2, j3, j4, j5⟩ := id hD
      have e27 : f 27 = false := hk.2.1 27 (by kernel_rfl)
      have e29 : f 29 = false := hk.2.1 29 (by kernel_rfl)
      have jz := jw hk.1
      have q0 : w'.cell? ⟨w.heap.size + 1 + 1, 0, none⟩ = some (.int .i64 (m.sw k)) := by rw [jz]; exact m1
      have q1 : w'.frozen? ⟨w.heap.size + 1 + 1, 0, none⟩ = false := by rw [jz]; exact g1
      clear jw j2 j3 j4 j5
      clear hk hD
      go_simp
    · intro f w' hD hk
      obtain ⟨jw, j2, j3, j4, j5⟩ := id hD
      have e27 : f 27 = false := hk.2.1 27 (by kernel_rfl)
      have e29 : f 29 = false := hk.2.1 29 (by kernel_rfl)
      have jz := jw hk.1
      have q0 : w'.cell? ⟨w.heap.size + 1 + 1, 0, none⟩ = some (.int .i64 (m.sw k)) := by rw [jz]; exact m1
      have q1 : w'.frozen? ⟨w.heap.size + 1 + 1, 0, none⟩ = false := by rw [jz]; exact g1
      clear jw j2 j3 j4 j5
      exact ⟨fun h => by simp [Fx.add] at h, fun _ _ => by rw [jz], fun h => by simp [Fx.add, e27] at h, fun h => by simp [Fx.add, e29] at h, fun p hp => (World.cell?_setCell_other w' ⟨w.heap.size + 1 + 1, 0, none⟩ p (.int .i64 (m.sw (k + 1))) (fun e => hp (by subst e; rfl))).trans (hD.2.2.2.2 p hp)⟩
    simp only [Act.put, List.setIfInBounds_toArray, List.set_cons_zero, List.set_cons_succ]
    iterate 1 (first
      | (refine Fx.skip_ (by rfl) (fun f w h => h) ?_; simp only [Act.put, List.setIfInBounds_toArray, List.set_cons_zero, List.set_cons_succ])
      | (refine Fx.val_ ?_ (by rfl) ?_ (fun f w h => h) ?_
         rotate_left
         · intro f w' hD hk
           obtain ⟨jw, j2, j3, j4, j5⟩ := id hD
           clear hk hD jw j2 j3 j4 j5
           go_simp
           try rfl
         simp only [Act.put, List.setIfInBounds_toArray, List.set_cons_zero, List.set_cons_succ]))
    refine Fx.store_ (fun w' => w'.setCell ⟨w.heap.size + 1 + 1, 1, none⟩ (.int .i64 (m.sq (k + 1)))) (by rfl) ?_ ?_ ?_
    · intro f w' hD hk
      obtain ⟨jw, j2, j3, j4, j5⟩ := id hD
      have e25 : f 25 = true := hk.2.2.1 25 (by kernel_rfl)
      have e29 : f 29 = false := hk.2.1 29 (by kernel_rfl)
      have jz := j2 e25 hk.1
      have q0 : w'.cell? ⟨w.heap.size + 1 + 1, 1, none⟩ = some (.int .i64 (m.sq k)) := by rw [jz]; go_simp
      have q1 : w'.frozen? ⟨w.heap.size + 1 + 1, 1, none⟩ = false := by rw [jz]; go_simp
      clear jw j2 j3 j4 j5
      clear hk hD
      go_simp
    · intro f w' hD hk
      obtain ⟨jw, j2, j3, j4, j5⟩ := id hD
      have e25 : f 25 = true := hk.2.2.1 25 (by kernel_rfl)
      have e29 : f 29 = false := hk.2.1 29 (by kernel_rfl)
      have jz := j2 e25 hk.1
      have q0 : w'.cell? ⟨w.heap.size + 1 + 1, 1, none⟩ = some (.int .i64 (m.sq k)) := by rw [jz]; go_simp
      have q1 : w'.frozen? ⟨w.heap.size + 1 + 1, 1, none⟩ = false := by rw [jz]; go_simp
      clear jw j2 j3 j4 j5
      exact ⟨fun h => by simp [Fx.add, e25] at h, fun _ h => by simp [Fx.add] at h, fun _ _ => by rw [jz], fun h => by simp [Fx.add, e29] at h, fun p hp => (World.cell?_setCell_other w' ⟨w.heap.size + 1 + 1, 1, none⟩ p (.int .i64 (m.sq (k + 1))) (fun e => hp (by subst e; rfl))).trans (hD.2.2.2.2 p hp)⟩
    simp only [Act.put, List.setIfInBounds_toArray, List.set_cons_zero, List.set_cons_succ]
    iterate 1 (first
      | (refine Fx.skip_ (by rfl) (fun f w h => h) ?_; simp only [Act.put, List.setIfInBounds_toArray, List.set_cons_zero, List.set_cons_succ])
      | (refine Fx.val_ ?_ (by rfl) ?_ (fun f w h => h) ?_
         rotate_left
         · intro f w' hD hk
           obtain ⟨jw, j2, j3, j4, j5⟩ := id hD
           clear hk hD jw j2 j3 j4 j5
           go_simp
           try rfl
         simp only [Act.put, List.setIfInBounds_toArray, List.set_cons_zero, List.set_cons_succ]))
    refine Fx.store_ (fun w' => w'.setCell ⟨w.heap.size + 1 + 1, 2, none⟩ (.int .i64 (m.sh (k + 1)))) (by rfl) ?_ ?_ ?_
    · intro f w' hD hk
      obtain ⟨jw, j2, j3, j4, j5⟩ := id hD
      have e25 : f 25 = true := hk.2.2.1 25 (by kernel_rfl)
      have e27 : f 27 = true := hk.2.2.1 27 (by kernel_rfl)
      have jz := j3 e27 hk.1
      have q0 : w'.cell? ⟨w.heap.size + 1 + 1, 2, none⟩ = some (.int .i64 (m.sh k)) := by rw [jz]; go_simp
      have q1 : w'.frozen? ⟨w.heap.size + 1 + 1, 2, none⟩ = false := by rw [jz]; go_simp
      clear jw j2 j3 j4 j5
      clear hk hD
      go_simp
    · intro f w' hD hk
      obtain ⟨jw, j2, j3, j4, j5⟩ := id hD
      have e25 : f 25 = true := hk.2.2.1 25 (by kernel_rfl)
      have e27 : f 27 = true := hk.2.2.1 27 (by kernel_rfl)
      have jz := j3 e27 hk.1
      have q0 : w'.cell? ⟨w.heap.size + 1 + 1, 2, none⟩ = some (.int .i64 (m.sh k)) := by rw [jz]; go_simp
      have q1 : w'.frozen? ⟨w.heap.size + 1 + 1, 2, none⟩ = false := by rw [jz]; go_simp
      clear jw j2 j3 j4 j5
      exact ⟨fun h => by simp [Fx.add, e25] at h, fun _ h => by simp [Fx.add, e27] at h, fun _ h => by simp [Fx.add] at h, fun _ => by rw [jz], fun p hp => (World.cell?_setCell_other w' ⟨w.heap.size + 1 + 1, 2, none⟩ p (.int .i64 (m.sh (k + 1))) (fun e => hp (by subst e; rfl))).trans (hD.2.2.2.2 p hp)⟩
    simp only [Act.put, List.setIfInBounds_toArray, List.set_cons_zero, List.set_cons_succ]
    refine Fx.nil_ ?_
    intro f w1 hall hD
    have hf29 := hall 29 (by simp)
    obtain ⟨_, _, _, h4, _⟩ := hD
    simp only [hf29, if_true] at *
    have h4 := h4 (by first | rfl | trivial)
    subst h4
    have hfin := ((((show Blk W0 (w.heap.size + 1 + 1) 77 #[.int .i64 (m.sw k), .int .i64 (m.sq k), .int .i64 (m.sh k)] by rw [HW0.out]; exact Blk.drewN K2_2.out 1).set_ 0 (.int .i64 (m.sw (k + 1)))).set_ 1 (.int .i64 (m.sq (k + 1)))).set_ 2 (.int .i64 (m.sh (k + 1))))
    have HF := Lib.hid hfin
    have hgf : w1.grownBy W0 (some (w.heap.size + 1 + 1)) := by rw [HW0.out]; exact only_drewN HG.out 1
    have HGF := Lib.hid (only_setCell (only_setCell (only_setCell hgf (p := ⟨w.heap.size + 1 + 1, 0, none⟩) (.inl rfl) (.int .i64 (m.sw (k + 1)))) (p := ⟨w.heap.size + 1 + 1, 1, none⟩) (.inl rfl) (.int .i64 (m.sq (k + 1)))) (p := ⟨w.heap.size + 1 + 1, 2, none⟩) (.inl rfl) (.int .i64 (m.sh (k + 1))))
    clear hfin hgf m1 m2 m3 m4 m5 m6 m7 g1 g2 g3
    go_wp2
    go_roundw
    case rel => exact ⟨k + 1, by omega, by go_num, HGF.out, HF.out⟩
    case measure => simp [intOf]; omega
end Go.Proofs.Ytmejiafmmmeloaa

end
