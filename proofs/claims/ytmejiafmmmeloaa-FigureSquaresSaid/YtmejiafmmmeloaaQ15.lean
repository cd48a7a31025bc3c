import Derived.Test.YtmejiafmmmeloaaQ14
import Derived.Test.YtmejiafmmmeloaaQ10

section
/- Contracts of chapter 6: the removal of a zone, the greatest number, the check of a map. -/
namespace Go.Proofs.Ytmejiafmmmeloaa
open Go Go.RowKit

/-- The removal of a zone by the line a/b + (c/d) q, times b d. -/
def remN (m : Rm) (a b c d : Int) (z : Nat) : Int := m.h z * (b * d) - a * d - c * m.q z * b
structure LnOk (a b c d : Int) : Prop where
  a1 : -1000000000 ≤ a
  a2 : a ≤ 1000000000
  b1 : 1 ≤ b
  b2 : b ≤ 1000
  c1 : -1000000000 ≤ c
  c2 : c ≤ 1000000000
  d1 : 1 ≤ d
  d2 : d ≤ 1000
theorem rem_in {m : Rm} (hm : m.Ok) {a b c d : Int} (hl : LnOk a b c d) {z : Nat} (hz : z < m.n) : (1 ≤ b * d ∧ b * d ≤ 1000000) ∧ (-100000000000 ≤ m.h z * (b * d) ∧ m.h z * (b * d) ≤ 100000000000) ∧ (-1000000000000 ≤ a * d ∧ a * d ≤ 1000000000000) ∧ (-1000000000000 ≤ c * m.q z ∧ c * m.q z ≤ 1000000000000) ∧ (-1000000000000000 ≤ c * m.q z * b ∧ c * m.q z * b ≤ 1000000000000000) := by
  obtain ⟨a1, a2, b1, b2, c1, c2, d1, d2⟩ := hl
  have r1 := hm.h z hz
  have r2 := hm.q z hz
  have p0 := prod_small (x := b) (y := d) (X := 1000) (Y := 1000) (by omega) (by omega) (by omega) (by omega)
  have p00 : 1 ≤ b * d := Int.mul_le_mul b1 d1 (by omega) (by omega)
  have p1 := prod_small (x := m.h z) (y := b * d) (X := 100000) (Y := 1000000) (by omega) (by omega) (by omega) (by omega)
  have p2 := prod_small (x := a) (y := d) (X := 1000000000) (Y := 1000) (by omega) (by omega) (by omega) (by omega)
  have p3 := prod_small (x := c) (y := m.q z) (X := 1000000000) (Y := 1000) (by omega) (by omega) (by omega) (by omega)
  have p4 := prod_small (x := c * m.q z) (y := b) (X := 1000000000000) (Y := 1000) (by omega) (by omega) (by omega) (by omega)
  omega

set_option maxRecDepth 100000 in
set_option maxHeartbeats 4000000 in
theorem removal_is (m : Rm) (hm : m.Ok) (a b c d ta tb : Int) (hl : LnOk a b c d) (z : Nat) (hz : z < m.n) (r v : Int) (hr : remN m a b c d z = r) (hv : b * d = v) (w : World) (hx : RmAt m w) :
    Calls Try.prog 26 #[m.val, .agg #[.int .i64 a, .int .i64 b, .int .i64 c, .int .i64 d, .int .i64 ta, .int .i64 tb], .int .i64 (z : Int)] w fun e w' => e = .returned (.tuple #[.int .i64 r, .int .i64 v]) ∧ Below w.heap.size w w' := by
  obtain ⟨q0, q1, q2, q3, q4⟩ := rem_in hm hl hz
  unfold remN at hr
  rw [hv] at hr q0 q1
  have e0 : IntKind.i64.wrap (b * d) = v := by rw [hv]; exact IntWalk.i64_in v ⟨by omega, by omega⟩
  have e1 := IntWalk.i64_in (m.h z * v) ⟨by omega, by omega⟩
  have e2 := IntWalk.i64_in (a * d) ⟨by omega, by omega⟩
  have e3 := IntWalk.i64_in (m.h z * v - a * d) ⟨by omega, by omega⟩
  have e4 := IntWalk.i64_in (c * m.q z) ⟨by omega, by omega⟩
  have e5 := IntWalk.i64_in (c * m.q z * b) ⟨by omega, by omega⟩
  have e6 : IntKind.i64.wrap (m.h z * v - a * d - c * m.q z * b) = r := by rw [hr]; exact IntWalk.i64_in r ⟨by omega, by omega⟩
  have d1 := hx.r1 z hz
  have d2 := hx.r2 z hz
  have l1 := hx.l1
  have l2 := hx.l2
  have hzz : (z : Int) < (m.n : Int) := by omega
  clear hr hv hm hl hx q0 q1 q2 q3 q4
  unfold Rm.val
  go_enter Try.func26, Try.ntmps26
  have C0_0 := Lib.hid d1
  have C1_0 := Lib.hid d2
  clear d1 d2
  go_wp2
  generalize hwn : ((w.alloc (.cells #[.slice (some ⟨m.b1, m.o1, none⟩) m.n m.c1, .slice (some ⟨m.b2, m.o2, none⟩) m.n m.c2, .slice (some ⟨m.b3, m.o3, none⟩) m.n m.c3] 38)).alloc (.cells #[.int .i64 (a), .int .i64 (b), .int .i64 (c), .int .i64 (d), .int .i64 (ta), .int .i64 (tb)] 62)) = w1
  have hbn : Below w.heap.size w w1 := by rw [← hwn]; repeat' (first | exact Below.refl _ _ | refine below_drewN ?_ _ | refine Below.drew ?_ | refine Below.alloc ?_ (by first | omega | (simp; done) | (simp; omega) | (simp [World.setCell]; omega)) _ | refine Below.setCell ?_ (by first | omega | (simp; done) | (simp; omega)) _)
  have HB1 := Lib.hid (show Below w.heap.size w w1 from hbn)
  have K0_1 := Lib.hid (show Blk w1 (w.heap.size) 38 #[.slice (some ⟨m.b1, m.o1, none⟩) m.n m.c1, .slice (some ⟨m.b2, m.o2, none⟩) m.n m.c2, .slice (some ⟨m.b3, m.o3, none⟩) m.n m.c3] by rw [← hwn]; repeat' (first | exact Blk.at_ _ (by first | rfl | (simp; done) | (simp; omega)) _ _ | refine Blk.drewN ?_ _ | refine Blk.drew ?_ | refine Blk.alloc ?_ _ | refine Blk.far ?_ (by first | omega | (simp; done) | (simp; omega)) _ | assumption))
  have K1_1 := Lib.hid (show Blk w1 (w.heap.size + 1) 62 #[.int .i64 (a), .int .i64 (b), .int .i64 (c), .int .i64 (d), .int .i64 (ta), .int .i64 (tb)] by rw [← hwn]; repeat' (first | exact Blk.at_ _ (by first | rfl | (simp; done) | (simp; omega)) _ _ | refine Blk.drewN ?_ _ | refine Blk.drew ?_ | refine Blk.alloc ?_ _ | refine Blk.far ?_ (by first | omega | (simp; done) | (simp; omega)) _ | assumption))
  have C0_1 := Lib.hid (step_cell hbn C0_0.out (by have := l1; first | omega | (simp; omega)))
  have C1_1 := Lib.hid (step_cell hbn C1_0.out (by have := l2; first | omega | (simp; omega)))
  have HN1 := Lib.hid hbn
  have hz1 := hbn.size
  clear hwn hbn
  have l0_1 : w.heap.size < w1.heap.size := K0_1.out.lt
  have z0_0_1 : w1.cell? ⟨w.heap.size, 0, none⟩ = some (.slice (some ⟨m.b1, m.o1, none⟩) m.n m.c1) := K0_1.out.cell 0
  have z0_1_1 : w1.cell? ⟨w.heap.size, 1, none⟩ = some (.slice (some ⟨m.b2, m.o2, none⟩) m.n m.c2) := K0_1.out.cell 1
  have z0_2_1 : w1.cell? ⟨w.heap.size, 2, none⟩ = some (.slice (some ⟨m.b3, m.o3, none⟩) m.n m.c3) := K0_1.out.cell 2
  have l1_1 : w.heap.size + 1 < w1.heap.size := K1_1.out.lt
  have z1_0_1 : w1.cell? ⟨w.heap.size + 1, 0, none⟩ = some (.int .i64 (a)) := K1_1.out.cell 0
  have z1_1_1 : w1.cell? ⟨w.heap.size + 1, 1, none⟩ = some (.int .i64 (b)) := K1_1.out.cell 1
  have z1_2_1 : w1.cell? ⟨w.heap.size + 1, 2, none⟩ = some (.int .i64 (c)) := K1_1.out.cell 2
  have z1_3_1 : w1.cell? ⟨w.heap.size + 1, 3, none⟩ = some (.int .i64 (d)) := K1_1.out.cell 3
  have z1_4_1 : w1.cell? ⟨w.heap.size + 1, 4, none⟩ = some (.int .i64 (ta)) := K1_1.out.cell 4
  have z1_5_1 : w1.cell? ⟨w.heap.size + 1, 5, none⟩ = some (.int .i64 (tb)) := K1_1.out.cell 5
  refine Fx.regionW (fun W f w' => Below W.heap.size W w') (by kernel_rfl) (by kernel_rfl) ?_ ?_
  · intro f hf0
    exact below_drewN (Below.refl _ _) 1
  repeat (first
    | (refine Fx.skip_ (by rfl) (fun f w h => h) ?_; simp only [Act.put, List.setIfInBounds_toArray, List.set_cons_zero, List.set_cons_succ])
    | (refine Fx.val_ ?_ (by rfl) ?_ (fun f w h => h) ?_
       rotate_left
       · intro f w' hD hk
         have hb := hD
         have kb0 := step_blk hb (show Blk _ (w.heap.size) 38 #[.slice (some ⟨m.b1, m.o1, none⟩) m.n m.c1, .slice (some ⟨m.b2, m.o2, none⟩) m.n m.c2, .slice (some ⟨m.b3, m.o3, none⟩) m.n m.c3] by repeat' (first | exact K0_1.out | exact K1_1.out | exact Blk.at_ _ (by first | rfl | (simp; done) | (simp; omega)) _ _ | refine Blk.drewN ?_ _ | refine Blk.drew ?_ | refine Blk.alloc ?_ _ | refine Blk.far ?_ (by first | omega | (simp; done) | (simp; omega)) _ | assumption))
         have y0_0 : w'.cell? ⟨w.heap.size, 0, none⟩ = some (.slice (some ⟨m.b1, m.o1, none⟩) m.n m.c1) := kb0.cell 0
         have y0_1 : w'.cell? ⟨w.heap.size, 1, none⟩ = some (.slice (some ⟨m.b2, m.o2, none⟩) m.n m.c2) := kb0.cell 1
         have y0_2 : w'.cell? ⟨w.heap.size, 2, none⟩ = some (.slice (some ⟨m.b3, m.o3, none⟩) m.n m.c3) := kb0.cell 2
         have kb1 := step_blk hb (show Blk _ (w.heap.size + 1) 62 #[.int .i64 (a), .int .i64 (b), .int .i64 (c), .int .i64 (d), .int .i64 (ta), .int .i64 (tb)] by repeat' (first | exact K0_1.out | exact K1_1.out | exact Blk.at_ _ (by first | rfl | (simp; done) | (simp; omega)) _ _ | refine Blk.drewN ?_ _ | refine Blk.drew ?_ | refine Blk.alloc ?_ _ | refine Blk.far ?_ (by first | omega | (simp; done) | (simp; omega)) _ | assumption))
         have y1_0 : w'.cell? ⟨w.heap.size + 1, 0, none⟩ = some (.int .i64 (a)) := kb1.cell 0
         have y1_1 : w'.cell? ⟨w.heap.size + 1, 1, none⟩ = some (.int .i64 (b)) := kb1.cell 1
         have y1_2 : w'.cell? ⟨w.heap.size + 1, 2, none⟩ = some (.int .i64 (c)) := kb1.cell 2
         have y1_3 : w'.cell? ⟨w.heap.size + 1, 3, none⟩ = some (.int .i64 (d)) := kb1.cell 3
         have y1_4 : w'.cell? ⟨w.heap.size + 1, 4, none⟩ = some (.int .i64 (ta)) := kb1.cell 4
         have y1_5 : w'.cell? ⟨w.heap.size + 1, 5, none⟩ = some (.int .i64 (tb)) := kb1.cell 5
         have yc0 : w'.cell? ⟨m.b1, m.o1 + z, none⟩ = some (.int .i64 (m.h z)) := step_cell hb (show World.cell? _ ⟨m.b1, m.o1 + z, none⟩ = some (.int .i64 (m.h z)) by first | exact C0_1.out | go_simp) (by have := l1; first | omega | (simp; omega))
         have yc1 : w'.cell? ⟨m.b2, m.o2 + z, none⟩ = some (.int .i64 (m.q z)) := step_cell hb (show World.cell? _ ⟨m.b2, m.o2 + z, none⟩ = some (.int .i64 (m.q z)) by first | exact C1_1.out | go_simp) (by have := l2; first | omega | (simp; omega))
         clear kb0 kb1
         clear hk hD hb
         go_simp
         try rfl
       simp only [Act.put, List.setIfInBounds_toArray, List.set_cons_zero, List.set_cons_succ]))
  refine Fx.nil_ ?_
  intro f w2 hall hb
  try clear hall
  have HB12 := Lib.hid hb
  have HB2 := Lib.hid (show Below w.heap.size w w2 from step_below hb (by repeat' (first | exact Below.refl _ _ | exact HB1.out | refine below_drewN ?_ _ | refine Below.drew ?_ | refine Below.alloc ?_ (by first | omega | (simp; done) | (simp; omega) | (simp [World.setCell]; omega)) _ | refine Below.setCell ?_ (by first | omega | (simp; done) | (simp; omega)) _ | assumption)))
  have K0_2 := Lib.hid (step_blk hb (show Blk _ (w.heap.size) 38 #[.slice (some ⟨m.b1, m.o1, none⟩) m.n m.c1, .slice (some ⟨m.b2, m.o2, none⟩) m.n m.c2, .slice (some ⟨m.b3, m.o3, none⟩) m.n m.c3] by repeat' (first | exact K0_1.out | exact K1_1.out | exact Blk.at_ _ (by first | rfl | (simp; done) | (simp; omega)) _ _ | refine Blk.drewN ?_ _ | refine Blk.drew ?_ | refine Blk.alloc ?_ _ | refine Blk.far ?_ (by first | omega | (simp; done) | (simp; omega)) _ | assumption)))
  have K1_2 := Lib.hid (step_blk hb (show Blk _ (w.heap.size + 1) 62 #[.int .i64 (a), .int .i64 (b), .int .i64 (c), .int .i64 (d), .int .i64 (ta), .int .i64 (tb)] by repeat' (first | exact K0_1.out | exact K1_1.out | exact Blk.at_ _ (by first | rfl | (simp; done) | (simp; omega)) _ _ | refine Blk.drewN ?_ _ | refine Blk.drew ?_ | refine Blk.alloc ?_ _ | refine Blk.far ?_ (by first | omega | (simp; done) | (simp; omega)) _ | assumption)))
  have C0_2 := Lib.hid (step_cell hb (show World.cell? _ ⟨m.b1, m.o1 + z, none⟩ = some (.int .i64 (m.h z)) by first | exact C0_1.out | go_simp) (by have := l1; first | omega | (simp; omega)))
  have C1_2 := Lib.hid (step_cell hb (show World.cell? _ ⟨m.b2, m.o2 + z, none⟩ = some (.int .i64 (m.q z)) by first | exact C1_1.out | go_simp) (by have := l2; first | omega | (simp; omega)))
  have hz2 := hb.size
  try simp only [World.size_alloc, World.drewN, World.drew] at hz2
  clear hb K0_1 K1_1 z0_0_1 z0_1_1 z0_2_1 l0_1 z1_0_1 z1_1_1 z1_2_1 z1_3_1 z1_4_1 z1_5_1 l1_1
  have l0_2 : w.heap.size < w2.heap.size := K0_2.out.lt
  have z0_0_2 : w2.cell? ⟨w.heap.size, 0, none⟩ = some (.slice (some ⟨m.b1, m.o1, none⟩) m.n m.c1) := K0_2.out.cell 0
  have z0_1_2 : w2.cell? ⟨w.heap.size, 1, none⟩ = some (.slice (some ⟨m.b2, m.o2, none⟩) m.n m.c2) := K0_2.out.cell 1
  have z0_2_2 : w2.cell? ⟨w.heap.size, 2, none⟩ = some (.slice (some ⟨m.b3, m.o3, none⟩) m.n m.c3) := K0_2.out.cell 2
  have l1_2 : w.heap.size + 1 < w2.heap.size := K1_2.out.lt
  have z1_0_2 : w2.cell? ⟨w.heap.size + 1, 0, none⟩ = some (.int .i64 (a)) := K1_2.out.cell 0
  have z1_1_2 : w2.cell? ⟨w.heap.size + 1, 1, none⟩ = some (.int .i64 (b)) := K1_2.out.cell 1
  have z1_2_2 : w2.cell? ⟨w.heap.size + 1, 2, none⟩ = some (.int .i64 (c)) := K1_2.out.cell 2
  have z1_3_2 : w2.cell? ⟨w.heap.size + 1, 3, none⟩ = some (.int .i64 (d)) := K1_2.out.cell 3
  have z1_4_2 : w2.cell? ⟨w.heap.size + 1, 4, none⟩ = some (.int .i64 (ta)) := K1_2.out.cell 4
  have z1_5_2 : w2.cell? ⟨w.heap.size + 1, 5, none⟩ = some (.int .i64 (tb)) := K1_2.out.cell 5
  go_wp2
  go_ret2
  exact ⟨rfl, HB2.out⟩

set_option maxRecDepth 100000 in
theorem max_any (A : Option Addr) (n c : Nat) (l : List Int) (hn : 1 ≤ n) (hn2 : n ≤ 1000) (hl : ∀ z ∈ l, 0 ≤ z ∧ z ≤ 1000) (w : World) (hx : Reads w w.heap.size 1 A n (l.map (.int .i64))) :
    Calls Try.prog 36 #[.slice A n c] w fun e w' => (∃ v : Int, e = .returned (.int .i64 v) ∧ (v = 0 ↔ ∀ z ∈ l, z = 0)) ∧ w = w' := by
  have hlen : l.length = n := by have := hx.1; simpa using this
  obtain ⟨gb, go, z0, rfl, hgb, hz0, c0⟩ := hx.int_ (show 0 < n by omega)
  simp only [Nat.add_zero] at c0
  have r0 := hl z0 (List.mem_of_getElem? hz0)
  have HX := Lib.hid hx
  have HL := Lib.hid hl
  have HLEN := Lib.hid hlen
  have HZ0 := Lib.hid hz0
  have hd1 : ¬ n < 1 := by omega
  have hd2 : (0 : Int) < (n : Int) := by omega
  have hd3 : 0 < n := by omega
  clear hx hl hlen hz0
  go_enter Try.func36, Try.ntmps36
  go_wp2
  go_loopw [3, 4] (fun v i wr => ∃ (k : Nat) (a : Int), 1 ≤ k ∧ k ≤ n ∧ v = .int .i64 a ∧ i = .int .i64 k ∧ 0 ≤ a ∧ a ≤ 1000 ∧ (a = 0 ↔ ∀ z ∈ l.take k, z = 0) ∧ w = wr) (fun _ i _ => n - (intOf i).toNat)
  case atStart =>
    refine ⟨1, z0, Nat.le_refl _, hn, rfl, rfl, r0.1, r0.2, ?_, rfl⟩
    have e : l.take 1 = [z0] := by
      have := HZ0.out
      cases l with
      | nil => simp at this
      | cons q t => obtain rfl : q = z0 := by simpa using this
                    rfl
    rw [e]
    simp
  case round =>
    obtain ⟨k, a, hk1, hk, rfl, rfl, ha1, ha2, hq, rfl⟩ := hrel
    have HQ := Lib.hid hq
    clear hq
    by_cases hlt : k < n
    · obtain ⟨yb, yo, z, hA, -, hz, c1⟩ := HX.out.int_ hlt
      obtain ⟨rfl, rfl⟩ : gb = yb ∧ go = yo := by simpa using hA
      have rz := HL.out z (List.mem_of_getElem? hz)
      have hkk : (k : Int) < (n : Int) := by omega
      have hnx : (∀ y ∈ l.take (k + 1), y = 0) ↔ (∀ y ∈ l.take k, y = 0) ∧ z = 0 := by
        rw [List.take_add_one, hz]
        constructor
        · intro h; exact ⟨fun y hy => h y (List.mem_append_left _ hy), h z (by simp)⟩
        · rintro ⟨h1, h2⟩ y hy
          rcases List.mem_append.1 hy with hy | hy
          · exact h1 y hy
          · obtain rfl : y = z := by simpa using hy
            exact h2
      have HNX := Lib.hid hnx
      clear hnx hz hA
      by_cases haz : a < z
      · go_wp2
        go_roundw
        case rel => exact ⟨k + 1, z, by omega, by omega, rfl, by go_num, by omega, by omega, by rw [HNX.out, ← HQ.out]; omega, trivial⟩
        case measure => simp [intOf]; omega
      · have haz' : z ≤ a := by omega
        go_wp2
        go_roundw
        case rel => exact ⟨k + 1, a, by omega, by omega, rfl, by go_num, by omega, by omega, by rw [HNX.out, ← HQ.out]; omega, trivial⟩
        case measure => simp [intOf]; omega
    · obtain rfl : k = n := by omega
      go_wp2
      go_ret
      exact ⟨⟨a, rfl, by rw [HQ.out, List.take_of_length_le (by rw [HLEN.out]; omega)]⟩, rfl⟩
end Go.Proofs.Ytmejiafmmmeloaa

end

section
/- The contract of the judgement of an enclosure. -/
namespace Go.Proofs.Ytmejiafmmmeloaa
open Go Go.RowKit Go.Shelf

attribute [local go_sem] Oper.semAt_some

theorem getD_of {α : Type} {l : List α} {i : Nat} {x d : α} (h : l[i]? = some x) : l.getD i d = x := by rw [List.getD_eq_getElem?_getD, h]; rfl
/-- What the judgement has found so far. -/
def ansV (l : List (Int × Int)) (p s : Int) (xs : List (Nat × Nat)) : Int := if xs.any (fun x => openB l p s x.1 x.2) then 0 else 1
theorem ans_snoc {l : List (Int × Int)} {p s : Int} {xs : List (Nat × Nat)} {x : Nat × Nat} : ansV l p s (xs ++ [x]) = if openB l p s x.1 x.2 then 0 else ansV l p s xs := by
  unfold ansV
  rw [List.any_append]
  cases h : openB l p s x.1 x.2 <;> simp only [List.any_cons, List.any_nil, h, Bool.or_false, Bool.or_true, if_true, Bool.false_eq_true, if_false]
theorem judge_ref {l : List (Int × Int)} {p s v : Int} {i k : Nat} (hv : judgeF l p s = (v, (i, k))) {pre : List (Nat × Nat)} {x : Nat × Nat} (hp : pre <+: pairsL l.length) (h0 : HitP (refB l p s) pre x) : v = -1 ∧ i = x.1 ∧ k = x.2 := by
  unfold judgeF at hv
  rw [h0.first hp] at hv
  simp only [Prod.mk.injEq] at hv
  obtain ⟨h1, h2⟩ := hv
  exact ⟨h1.symm, by rw [h2], by rw [h2]⟩
theorem judge_no {l : List (Int × Int)} {p s v : Int} {i k : Nat} (hv : judgeF l p s = (v, (i, k))) (h0 : NoP (refB l p s) (pairsL l.length)) : v = ansV l p s (pairsL l.length) ∧ i = 0 ∧ k = 0 := by
  unfold judgeF at hv
  rw [firstP_none h0] at hv
  simp only [Prod.mk.injEq] at hv
  obtain ⟨h1, h2, h3⟩ := hv
  exact ⟨h1.symm, h2.symm, h3.symm⟩

set_option maxRecDepth 100000 in
set_option maxHeartbeats 4000000 in
theorem judge_is (A : Option Addr) (n c : Nat) (l : List (Int × Int)) (p s : Int) (hE : judgeErr l p s = 0) (v : Int) (i k : Nat) (hv : judgeF l p s = (v, (i, k))) (w : World) (hx : Reads w w.heap.size 2 A n (cells2 l)) :
    Calls Try.prog 29 #[.agg #[.int .i64 p, .int .i64 s], .slice A n c] w fun e w' => e = .returned (.tuple #[.int .i64 v, .agg #[.int .i64 (i : Int), .int .i64 (k : Int)]]) ∧ Below w.heap.size w w' := by
  have hl := hx.len2
  obtain ⟨hE1, hE2⟩ := judgeErr_ok hE
  obtain ⟨n1, n2, hr⟩ := encl_ok hE1
  obtain ⟨t1, t2, t3, t4⟩ := tol_ok hE2
  rw [hl] at n1 n2
  have HX := Lib.hid hx
  have HV := Lib.hid hv
  have HL := Lib.hid hl
  have HRG := Lib.hid hr
  clear hx hE hv hl hE1 hE2 hr
  refine callsIn_wide.1 (callsIn_of_wp_marks (n := 10) Try.func29 rfl trivial (wpIn_wide.2 ?_) rfl)
  simp only [Try.ntmps29, List.size_toArray, List.length_cons, List.length_nil, Nat.reduceAdd, Nat.reduceSub, Array.replicate_succ, Array.replicate_zero, List.push_toArray, List.append_toArray, List.nil_append, List.cons_append]
  go_wp2_with fail
  refine (pairs_any _ _).mono ?_
  rintro e w2 ⟨rfl, hw2⟩
  subst hw2
  generalize hwn : ((((((w.alloc (.cells #[.int .i64 (p), .int .i64 (s)] 69)).alloc (.cells #[.slice A n c] 22)).alloc (.cells #[.int .i64 (0)] 3)).alloc (.cells #[.int .i64 (0), .int .i64 (0)] 40)).alloc (.cells #[.int .i64 (1)] 3)).alloc (.cells #[.int .i64 ((n : Int))] 3)) = w1
  have hbn : Below w.heap.size w w1 := by rw [← hwn]; repeat' (first | exact Below.refl _ _ | refine below_drewN ?_ _ | refine Below.drew ?_ | refine Below.alloc ?_ (by first | omega | (simp; done) | (simp; omega) | (simp [World.setCell]; omega)) _ | refine Below.setCell ?_ (by first | omega | (simp; done) | (simp; omega)) _)
  have HB1 := Lib.hid (show Below w.heap.size w w1 from hbn)
  have K0_1 := Lib.hid (show Blk w1 (w.heap.size) 69 #[.int .i64 (p), .int .i64 (s)] by rw [← hwn]; repeat' (first | exact Blk.at_ _ (by first | rfl | (simp; done) | (simp; omega)) _ _ | refine Blk.drewN ?_ _ | refine Blk.drew ?_ | refine Blk.alloc ?_ _ | refine Blk.far ?_ (by first | omega | (simp; done) | (simp; omega)) _ | assumption))
  have K1_1 := Lib.hid (show Blk w1 (w.heap.size + 1) 22 #[.slice A n c] by rw [← hwn]; repeat' (first | exact Blk.at_ _ (by first | rfl | (simp; done) | (simp; omega)) _ _ | refine Blk.drewN ?_ _ | refine Blk.drew ?_ | refine Blk.alloc ?_ _ | refine Blk.far ?_ (by first | omega | (simp; done) | (simp; omega)) _ | assumption))
  have K2_1 := Lib.hid (show Blk w1 (w.heap.size + 1 + 1) 3 #[.int .i64 (0)] by rw [← hwn]; repeat' (first | exact Blk.at_ _ (by first | rfl | (simp; done) | (simp; omega)) _ _ | refine Blk.drewN ?_ _ | refine Blk.drew ?_ | refine Blk.alloc ?_ _ | refine Blk.far ?_ (by first | omega | (simp; done) | (simp; omega)) _ | assumption))
  have K3_1 := Lib.hid (show Blk w1 (w.heap.size + 1 + 1 + 1) 40 #[.int .i64 (0), .int .i64 (0)] by rw [← hwn]; repeat' (first | exact Blk.at_ _ (by first | rfl | (simp; done) | (simp; omega)) _ _ | refine Blk.drewN ?_ _ | refine Blk.drew ?_ | refine Blk.alloc ?_ _ | refine Blk.far ?_ (by first | omega | (simp; done) | (simp; omega)) _ | assumption))
  have K4_1 := Lib.hid (show Blk w1 (w.heap.size + 1 + 1 + 1 + 1) 3 #[.int .i64 (1)] by rw [← hwn]; repeat' (first | exact Blk.at_ _ (by first | rfl | (simp; done) | (simp; omega)) _ _ | refine Blk.drewN ?_ _ | refine Blk.drew ?_ | refine Blk.alloc ?_ _ | refine Blk.far ?_ (by first | omega | (simp; done) | (simp; omega)) _ | assumption))
  have K5_1 := Lib.hid (show Blk w1 (w.heap.size + 1 + 1 + 1 + 1 + 1) 3 #[.int .i64 ((n : Int))] by rw [← hwn]; repeat' (first | exact Blk.at_ _ (by first | rfl | (simp; done) | (simp; omega)) _ _ | refine Blk.drewN ?_ _ | refine Blk.drew ?_ | refine Blk.alloc ?_ _ | refine Blk.far ?_ (by first | omega | (simp; done) | (simp; omega)) _ | assumption))
  have HN1 := Lib.hid hbn
  have hz1 := hbn.size
  clear hwn hbn
  have l0_1 : w.heap.size < w1.heap.size := K0_1.out.lt
  have z0_0_1 : w1.cell? ⟨w.heap.size, 0, none⟩ = some (.int .i64 (p)) := K0_1.out.cell 0
  have z0_1_1 : w1.cell? ⟨w.heap.size, 1, none⟩ = some (.int .i64 (s)) := K0_1.out.cell 1
  have l1_1 : w.heap.size + 1 < w1.heap.size := K1_1.out.lt
  have z1_0_1 : w1.cell? ⟨w.heap.size + 1, 0, none⟩ = some (.slice A n c) := K1_1.out.cell 0
  have l2_1 : w.heap.size + 1 + 1 < w1.heap.size := K2_1.out.lt
  have z2_0_1 : w1.cell? ⟨w.heap.size + 1 + 1, 0, none⟩ = some (.int .i64 (0)) := K2_1.out.cell 0
  have l3_1 : w.heap.size + 1 + 1 + 1 < w1.heap.size := K3_1.out.lt
  have z3_0_1 : w1.cell? ⟨w.heap.size + 1 + 1 + 1, 0, none⟩ = some (.int .i64 (0)) := K3_1.out.cell 0
  have z3_1_1 : w1.cell? ⟨w.heap.size + 1 + 1 + 1, 1, none⟩ = some (.int .i64 (0)) := K3_1.out.cell 1
  have l4_1 : w.heap.size + 1 + 1 + 1 + 1 < w1.heap.size := K4_1.out.lt
  have z4_0_1 : w1.cell? ⟨w.heap.size + 1 + 1 + 1 + 1, 0, none⟩ = some (.int .i64 (1)) := K4_1.out.cell 0
  have l5_1 : w.heap.size + 1 + 1 + 1 + 1 + 1 < w1.heap.size := K5_1.out.lt
  have z5_0_1 : w1.cell? ⟨w.heap.size + 1 + 1 + 1 + 1 + 1, 0, none⟩ = some (.int .i64 ((n : Int))) := K5_1.out.cell 0
  have hs1 := HB1.out.size
  go_wp2_with fail
  refine (wpIn_wide (n := 10)).1 ?_
  refine wpIn_rangeFunc_ownG (F := Fence.wide) rfl (by decide) (gf := 55) (lb := #[.pointer (some ⟨w.heap.size + 1 + 1 + 1 + 1 + 1, 0, none⟩)]) rfl trivial (enters_of Try.func55 (by kernel_rfl) rfl)
    (pairs_stops n (by omega) (w.heap.size + 1 + 1 + 1 + 1 + 1) 9 w1 l5_1 z5_0_1)
    kpZ_t (kpZ_b l5_1) (Below.refl _ _) (fun _ => rfl)
    (fun (pre : List (Pr n)) W => (NoP (refB l p s) (prs pre) ∧ w1.grownBy W (some (w.heap.size + 1 + 1 + 1 + 1))) ∧ W.heap[w.heap.size + 1 + 1 + 1 + 1]? = some (.cells #[.int .i64 (ansV l p s (prs pre))] 3 (0, 0)))
    (fun cd (pre : List (Pr n)) W => (((cd = .ret ∧ HitP (refB l p s) (prs pre) (lastP (prs pre))) ∧ Below w.heap.size w1 W) ∧ W.heap[w.heap.size + 1 + 1]? = some (.cells #[.int .i64 (-1)] 3 (0, 0))) ∧ W.heap[w.heap.size + 1 + 1 + 1]? = some (.cells #[.int .i64 ((lastP (prs pre)).1 : Int), .int .i64 ((lastP (prs pre)).2 : Int)] 40 (0, 0)))
    (OwnFrom.and (OwnFrom.and (ownFrom_pure _ _) (Fx.ownFrom_grown (Nat.le_refl _))) Fx.ownFrom_cells)
    (fun cd => OwnFrom.and (OwnFrom.and (OwnFrom.and (ownFrom_pure _ _) (ownFrom_below (by omega) (by omega))) Fx.ownFrom_cells) Fx.ownFrom_cells)
    ⟨⟨NoP.nil _, World.grownBy.refl _ _⟩, by exact K4_1.out⟩
    (fun x => { tmps := #[.agg #[.int .i64 p, .int .i64 s], .slice A n c, .pointer (some ⟨w.heap.size, 0, none⟩), .pointer (some ⟨w.heap.size + 1, 0, none⟩), .pointer (some ⟨w.heap.size + 1 + 1, 0, none⟩), .pointer (some ⟨w.heap.size + 1 + 1 + 1, 0, none⟩), .pointer (some ⟨w.heap.size + 1 + 1 + 1 + 1, 0, none⟩), .int .i64 (x.1.1 : Int), .int .i64 (x.1.2 : Int), undef, .slice A n c, .int .i64 (n : Int), .func (.func 55) #[] #[.pointer (some ⟨w.heap.size + 1 + 1 + 1 + 1 + 1, 0, none⟩)], .int .i64 (x.1.1 : Int), .int .i64 (x.1.2 : Int)] ++ Array.replicate 35 undef, defers := [] }) ?assign ?body ?done ?stop
  case assign =>
    intro l' x W K hK
    unfold encP
    simp only [Array.replicate_succ, Array.replicate_zero, List.push_toArray, List.append_toArray, List.nil_append, List.cons_append] at hK
    gi_wp2
    exact hK
  case body =>
    rintro l' pre ⟨⟨i0, k0⟩, hi, hk, hne⟩ W ⟨⟨hno, hgr⟩, hans⟩ hlt
    simp only [Array.replicate_succ, Array.replicate_zero, List.push_toArray, List.append_toArray, List.nil_append, List.cons_append]
    have hne : ∀ {g : Nat}, g ≠ w.heap.size + 1 + 1 + 1 + 1 → some g ≠ some (w.heap.size + 1 + 1 + 1 + 1) := fun h e => h (Option.some.inj e)
    have hB0 : Below w.heap.size w W := HB1.out.grown hgr (by omega) (fun g hg => by have := Option.some.inj hg; omega)
    have d0 := K0_1.out.grown hgr (hne (by omega))
    have d0_0 := d0.cell 0
    have d0_1 := d0.cell 1
    obtain ⟨b, hb⟩ : ∃ b, bndF p s i0 k0 = b := ⟨_, rfl⟩
    have hbi := bnd_in (i := i0) (k := k0) t1 t2 t3 (s := s)
    rw [hb] at hbi
    have HBD := Lib.hid hb
    have HGR := Lib.hid hgr
    have HANS := Lib.hid hans
    have HNO := Lib.hid hno
    have HB0 := Lib.hid hB0
    clear hgr hans hb hno d0 hB0
    gi_wp2_with fail
    refine ⟨trivial, CallsIn.inRound _ (callsIn_wide.2 ((bound_is p s i0 k0 b HBD.out _ t1 t2 t3 t4 (by omega) (by omega)).mono ?_))⟩
    rintro e W1 ⟨rfl, hb1⟩
    have hgr1 := Fx.grown_trans_ HGR.out (only_of_below hb1 _)
    have hB1 : Below w.heap.size w W1 := HB0.out.trans (hb1.mono HB0.out.size)
    have d1 := (K1_1.out.grown hgr1 (hne (by omega))).cell 0
    have k2 := K2_1.out.grown hgr1 (hne (by omega))
    have k3 := K3_1.out.grown hgr1 (hne (by omega))
    have k4 : Blk W1 (w.heap.size + 1 + 1 + 1 + 1) 3 #[.int .i64 (ansV l p s (prs pre))] := Blk.below HANS.out hb1 (Blk.lt HANS.out)
    have hrd : Reads W1 w.heap.size 2 A n (cells2 l) := HX.out.below hB1
    obtain ⟨xb, xo, pi, hA, hxb, hpi, ci0, ci1⟩ := hrd.pair hi
    obtain ⟨yb, yo, pk, hA2, hyb, hpk, ck0, ck1⟩ := hrd.pair hk
    subst hA
    obtain ⟨rfl, rfl⟩ : xb = yb ∧ xo = yo := by simpa using hA2
    obtain ⟨pi1, pi2⟩ := pi
    obtain ⟨pk1, pk2⟩ := pk
    simp only at ci0 ci1 ck0 ck1
    have r1 := HRG.out _ (List.mem_of_getElem? hpi)
    have r2 := HRG.out _ (List.mem_of_getElem? hpk)
    simp only at r1 r2
    have e1 := IntWalk.i64_in (pi1 - pk2) ⟨by omega, by omega⟩
    have e2 := IntWalk.i64_in (pi2 - pk1) ⟨by omega, by omega⟩
    have hrf : refB l p s i0 k0 = decide (b < pi1 - pk2) := by unfold refB; rw [getD_of hpi, getD_of hpk, HBD.out]
    have hop : openB l p s i0 k0 = decide (b < pi2 - pk1) := by unfold openB; rw [getD_of hpi, getD_of hpk, HBD.out]
    have hii : (i0 : Int) < (n : Int) := by omega
    have hkk : (k0 : Int) < (n : Int) := by omega
    have HRF := Lib.hid hrf
    have HOP := Lib.hid hop
    have HGR1 := Lib.hid hgr1
    have HB1b := Lib.hid hb1
    have HK2 := Lib.hid k2
    have HK3 := Lib.hid k3
    have HK4 := Lib.hid k4
    clear hA2 hpi hpk hrf hop hgr1 hrd hB1 k2 k3 k4 hb1
    gi_wp2_with fail
    obtain ⟨W2, hW2⟩ : ∃ W0, W0 = W1.drewN 1 := ⟨_, rfl⟩
    have m0 : W2.cell? ⟨w.heap.size + 1, 0, none⟩ = some (.slice (some ⟨xb, xo, none⟩) n c) := by rw [hW2]; exact d1
    have m1 : W2.cell? ⟨xb, xo + i0 * 2, none⟩ = some (.int .i64 (pi1)) := by rw [hW2]; exact ci0
    have m2 : W2.cell? ⟨xb, xo + k0 * 2 + 1, none⟩ = some (.int .i64 (pk2)) := by rw [hW2]; exact ck1
    refine Fx.regionIn (fun f w' => w' = W2 ∧ True) (by kernel_rfl) (by kernel_rfl) (by kernel_rfl) ?_ ?_
    · intro f hf0
      exact ⟨hW2.symm, trivial⟩
    have HQ_W2 := Lib.hid hW2
    clear hW2
    repeat (first
      | (refine Fx.skip_ (by rfl) (fun f w h => h) ?_; simp only [Act.put, List.setIfInBounds_toArray, List.set_cons_zero, List.set_cons_succ])
      | (refine Fx.val_ ?_ (by rfl) ?_ (fun f w h => h) ?_
         rotate_left
         · intro f w' hD hk
           obtain ⟨jw, jt⟩ := id hD
           have q0 : w'.cell? ⟨w.heap.size + 1, 0, none⟩ = some (.slice (some ⟨xb, xo, none⟩) n c) := by rw [jw]; exact m0
           have q1 : w'.cell? ⟨xb, xo + i0 * 2, none⟩ = some (.int .i64 (pi1)) := by rw [jw]; exact m1
           have q2 : w'.cell? ⟨xb, xo + k0 * 2 + 1, none⟩ = some (.int .i64 (pk2)) := by rw [jw]; exact m2
           clear hk hD jw jt
           go_simp
           try rfl
         simp only [Act.put, List.setIfInBounds_toArray, List.set_cons_zero, List.set_cons_succ]))
    refine Fx.nil_ ?_
    intro f W2_ hall hD
    obtain ⟨hjw, -⟩ := hD
    have hjw := hjw.symm
    subst hjw
    clear hall
    by_cases hd : b < pi1 - pk2
    · have hd' : decide (b < pi1 - pk2) = true := by simpa using hd
      have k2 : Blk W2 (w.heap.size + 1 + 1) 3 #[.int .i64 0] := by rw [HQ_W2.out]; exact Blk.drewN HK2.out 1
      have k3 : Blk W2 (w.heap.size + 1 + 1 + 1) 40 #[.int .i64 0, .int .i64 0] := by rw [HQ_W2.out]; exact Blk.drewN HK3.out 1
      have y2 := k2.cell 0
      have f2 := k2.frozen 0
      have y30 := k3.cell 0
      have y31 := k3.cell 1
      have f30 := k3.frozen 0
      have f31 := k3.frozen 1
      have HK2' := Lib.hid k2
      have HK3' := Lib.hid k3
      clear k2 k3
      gi_wp2_with fail
      refine ⟨?_, ⟨⟨⟨rfl, ?_⟩, ?_⟩, ?_⟩, ?_⟩
      · rw [HQ_W2.out]
        exact ((((keeps_below HB1b.out).trans (keeps_drewN _ _ _)).trans (keeps_set _ _ _ _)).trans (keeps_set _ _ _ _)).trans (keeps_set _ _ _ _)
      · rw [prs_snoc, lastP_snoc]
        exact HNO.out.hit (by rw [HRF.out]; exact hd')
      · have h0 : Below w.heap.size w1 W2 := by rw [HQ_W2.out]; exact below_drewN (grown_below HGR1.out (by omega) (by omega)) 1
        exact ((h0.setCell (p := ⟨w.heap.size + 1 + 1, 0, none⟩) (by show _ ≤ w.heap.size + 1 + 1; omega) _).setCell (p := ⟨w.heap.size + 1 + 1 + 1, 0, none⟩) (by show _ ≤ w.heap.size + 1 + 1 + 1; omega) _).setCell (p := ⟨w.heap.size + 1 + 1 + 1, 1, none⟩) (by show _ ≤ w.heap.size + 1 + 1 + 1; omega) _
      · have h0 := HK2'.out.set_ 0 (.int .i64 (-1))
        exact (h0.far (p := ⟨w.heap.size + 1 + 1 + 1, 0, none⟩) (by show w.heap.size + 1 + 1 ≠ w.heap.size + 1 + 1 + 1; omega) _).far (p := ⟨w.heap.size + 1 + 1 + 1, 1, none⟩) (by show w.heap.size + 1 + 1 ≠ w.heap.size + 1 + 1 + 1; omega) _
      · rw [prs_snoc, lastP_snoc]
        have h0 := HK3'.out.far (p := ⟨w.heap.size + 1 + 1, 0, none⟩) (by show w.heap.size + 1 + 1 + 1 ≠ w.heap.size + 1 + 1; omega) (.int .i64 (-1))
        exact (h0.set_ 0 (.int .i64 (i0 : Int))).set_ 1 (.int .i64 (k0 : Int))
    have hd' : decide (b < pi1 - pk2) = false := by simpa using hd
    have hns := HNO.out.snoc (x := (i0, k0)) (by rw [HRF.out]; exact hd')
    have d1' : W2.cell? ⟨w.heap.size + 1, 0, none⟩ = some (.slice (some ⟨xb, xo, none⟩) n c) := by rw [HQ_W2.out]; exact d1
    have ci1' : W2.cell? ⟨xb, xo + i0 * 2 + 1, none⟩ = some (.int .i64 pi2) := by rw [HQ_W2.out]; exact ci1
    have ck0' : W2.cell? ⟨xb, xo + k0 * 2, none⟩ = some (.int .i64 pk1) := by rw [HQ_W2.out]; exact ck0
    have HNS := Lib.hid hns
    clear hns
    gi_wp2_with fail
    obtain ⟨W3, hW3⟩ : ∃ W0, W0 = W2.drewN 1 := ⟨_, rfl⟩
    have m0 : W3.cell? ⟨w.heap.size + 1, 0, none⟩ = some (.slice (some ⟨xb, xo, none⟩) n c) := by rw [hW3]; exact d1'
    have m1 : W3.cell? ⟨xb, xo + i0 * 2 + 1, none⟩ = some (.int .i64 (pi2)) := by rw [hW3]; exact ci1'
    have m2 : W3.cell? ⟨xb, xo + k0 * 2, none⟩ = some (.int .i64 (pk1)) := by rw [hW3]; exact ck0'
    refine Fx.regionIn (fun f w' => w' = W3 ∧ True) (by kernel_rfl) (by kernel_rfl) (by kernel_rfl) ?_ ?_
    · intro f hf0
      exact ⟨hW3.symm, trivial⟩
    have HQ_W3 := Lib.hid hW3
    clear hW3
    repeat (first
      | (refine Fx.skip_ (by rfl) (fun f w h => h) ?_; simp only [Act.put, List.setIfInBounds_toArray, List.set_cons_zero, List.set_cons_succ])
      | (refine Fx.val_ ?_ (by rfl) ?_ (fun f w h => h) ?_
         rotate_left
         · intro f w' hD hk
           obtain ⟨jw, jt⟩ := id hD
           have q0 : w'.cell? ⟨w.heap.size + 1, 0, none⟩ = some (.slice (some ⟨xb, xo, none⟩) n c) := by rw [jw]; exact m0
           have q1 : w'.cell? ⟨xb, xo + i0 * 2 + 1, none⟩ = some (.int .i64 (pi2)) := by rw [jw]; exact m1
           have q2 : w'.cell? ⟨xb, xo + k0 * 2, none⟩ = some (.int .i64 (pk1)) := by rw [jw]; exact m2
           clear hk hD jw jt
           go_simp
           try rfl
         simp only [Act.put, List.setIfInBounds_toArray, List.set_cons_zero, List.set_cons_succ]))
    refine Fx.nil_ ?_
    intro f W3_ hall hD
    obtain ⟨hjw, -⟩ := hD
    have hjw := hjw.symm
    subst hjw
    clear hall
    have hg3 : w1.grownBy W3 (some (w.heap.size + 1 + 1 + 1 + 1)) := by rw [HQ_W3.out, HQ_W2.out]; exact only_drewN (only_drewN HGR1.out 1) 1
    have hkf : KeepsFrom w1.heap.size W W3 := by rw [HQ_W3.out, HQ_W2.out]; exact ((keeps_below HB1b.out).trans (keeps_drewN _ _ _)).trans (keeps_drewN _ _ _)
    have hkp : KpZ (w.heap.size + 1 + 1 + 1 + 1 + 1) W W3 := by rw [HQ_W3.out, HQ_W2.out]; exact kpZ_t (kpZ_below HB1b.out (by have := HGR.out.size; omega)) rfl
    have k4 : Blk W3 (w.heap.size + 1 + 1 + 1 + 1) 3 #[.int .i64 (ansV l p s (prs pre))] := by rw [HQ_W3.out, HQ_W2.out]; exact Blk.drewN (Blk.drewN HK4.out 1) 1
    have HG3 := Lib.hid hg3
    have HKF := Lib.hid hkf
    have HKP := Lib.hid hkp
    have HK4 := Lib.hid k4
    have y4 := k4.cell 0
    have f4 := k4.frozen 0
    clear hg3 hkf hkp k4
    by_cases ho : b < pi2 - pk1
    · have ho' : decide (b < pi2 - pk1) = true := by simpa using ho
      gi_wp2_with fail
      refine ⟨HKF.out.trans (keeps_set _ _ _ _), kpZ_t HKP.out (kpZ_set (p := ⟨w.heap.size + 1 + 1 + 1 + 1, 0, none⟩) (by show w.heap.size + 1 + 1 + 1 + 1 + 1 ≠ w.heap.size + 1 + 1 + 1 + 1; omega) _), ⟨?_, only_setCell HG3.out (.inl rfl) _⟩, ?_⟩
      · rw [prs_snoc]; exact HNS.out
      · rw [prs_snoc, ans_snoc, HOP.out, ho', if_pos rfl]
        exact HK4.out.set_ 0 _
    · have ho' : decide (b < pi2 - pk1) = false := by simpa using ho
      gi_wp2_with fail
      refine ⟨HKF.out, HKP.out, ⟨?_, HG3.out⟩, ?_⟩
      · rw [prs_snoc]; exact HNS.out
      · rw [prs_snoc, ans_snoc, HOP.out, ho', if_neg (by simp)]
        exact HK4.out
  case stop =>
    rintro D cd pre W hD hsp ⟨⟨⟨⟨rfl, hit⟩, hb⟩, hk2⟩, hk3⟩ hK
    obtain ⟨rfl, h2, h3⟩ := judge_ref HV.out (by rw [HL.out]; exact hsp) hit
    have hmk : Fx.MarksAt w1.heap.size [D] W := (Fx.MarksAt.nil _ W).cons hD hK (by simp)
    have hb' := HB1.out.trans hb
    clear hb hit hK
    gi_wp2_with fail
    refine Fx.leaves_marks [D] W hmk fun w' q1 q2 q3 q4 q5 => ?_
    have b2 := leave_blk hk2 (by omega) q1
    have b3 := leave_blk hk3 (by omega) q1
    have y2 := b2.cell 0
    have y30 := b3.cell 0
    have y31 := b3.cell 1
    have l2 := b2.lt
    have l3 := b3.lt
    exact ⟨.tuple #[.int .i64 (-1), .agg #[.int .i64 ((lastP (prs pre)).1 : Int), .int .i64 ((lastP (prs pre)).2 : Int)]], by simp [results, Try.results29, go_sem, y2, y30, y31, l2, l3], by rw [h2, h3], leave_below hb' (by omega) (Nat.le_refl _) q1 q2 q3 q4 q5⟩
  case done =>
    rintro D ys W hD hys ⟨⟨hno, hgr⟩, hans⟩ hK
    rw [hys] at hno hans
    have hne : ∀ {g : Nat}, g ≠ w.heap.size + 1 + 1 + 1 + 1 → some g ≠ some (w.heap.size + 1 + 1 + 1 + 1) := fun h e => h (Option.some.inj e)
    have hmk : Fx.MarksAt w1.heap.size [D] W := (Fx.MarksAt.nil _ W).cons hD hK (by simp)
    have k2 := K2_1.out.grown hgr (hne (by omega))
    have k3 := K3_1.out.grown hgr (hne (by omega))
    have y2 := k2.cell 0
    have f2 := k2.frozen 0
    have y30 := k3.cell 0
    have y31 := k3.cell 1
    have f30 := k3.frozen 0
    have f31 := k3.frozen 1
    have y4 := Blk.cell hans 0
    have HK2 := Lib.hid k2
    have HK3 := Lib.hid k3
    have HGR := Lib.hid hgr
    have HNO := Lib.hid hno
    have HMK := Lib.hid hmk
    clear k2 k3 hgr hno hans hmk hys hK
    obtain ⟨rfl, rfl, rfl⟩ := judge_no HV.out (by rw [HL.out]; exact HNO.out)
    go_wp2_with fail
    refine Fx.leaves_marks [D] _ (marks_set (marks_set (marks_set HMK.out (p := ⟨w.heap.size + 1 + 1, 0, none⟩) (by omega) _) (p := ⟨w.heap.size + 1 + 1 + 1, 0, none⟩) (by omega) _) (p := ⟨w.heap.size + 1 + 1 + 1, 1, none⟩) (by omega) _) fun w' q1 q2 q3 q4 q5 => ?_
    have b2 := leave_blk (((HK2.out.set_ 0 (.int .i64 (ansV l p s (pairsL n)))).far (p := ⟨w.heap.size + 1 + 1 + 1, 0, none⟩) (by show w.heap.size + 1 + 1 ≠ w.heap.size + 1 + 1 + 1; omega) (.int .i64 0)).far (p := ⟨w.heap.size + 1 + 1 + 1, 1, none⟩) (by show w.heap.size + 1 + 1 ≠ w.heap.size + 1 + 1 + 1; omega) (.int .i64 0)) (by omega) q1
    have b3 := leave_blk (((HK3.out.far (p := ⟨w.heap.size + 1 + 1, 0, none⟩) (by show w.heap.size + 1 + 1 + 1 ≠ w.heap.size + 1 + 1; omega) (.int .i64 (ansV l p s (pairsL n)))).set_ 0 (.int .i64 0)).set_ 1 (.int .i64 0)) (by omega) q1
    have y2 := b2.cell 0
    have y30 := b3.cell 0
    have y31 := b3.cell 1
    simp only [List.setIfInBounds_toArray, List.set_cons_zero, List.set_cons_succ] at y2 y30 y31
    have l2 := b2.lt
    have l3 := b3.lt
    have hB0 : Below w.heap.size w W := HB1.out.trans (grown_below HGR.out (by omega) (by omega))
    have hB1 := ((hB0.setCell (p := ⟨w.heap.size + 1 + 1, 0, none⟩) (by show _ ≤ w.heap.size + 1 + 1; omega) (.int .i64 (ansV l p s (pairsL n)))).setCell (p := ⟨w.heap.size + 1 + 1 + 1, 0, none⟩) (by show _ ≤ w.heap.size + 1 + 1 + 1; omega) (.int .i64 0)).setCell (p := ⟨w.heap.size + 1 + 1 + 1, 1, none⟩) (by show _ ≤ w.heap.size + 1 + 1 + 1; omega) (.int .i64 0)
    exact ⟨.tuple #[.int .i64 (ansV l p s (pairsL n)), .agg #[.int .i64 0, .int .i64 0]], by simp [results, Try.results29, go_sem, y2, y30, y31, l2, l3], by rw [HL.out]; rfl, leave_below hB1 (by omega) (Nat.le_refl _) q1 q2 q3 q4 q5⟩
end Go.Proofs.Ytmejiafmmmeloaa

end
