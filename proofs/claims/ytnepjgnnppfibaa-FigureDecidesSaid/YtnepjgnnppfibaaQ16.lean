import Derived.Test.YtnepjgnnppfibaaQ15
import Derived.Test.YtnepjgnnppfibaaQ9

section
/- Contracts of chapter 6: the removal of a zone, the greatest number, the check of a map. -/
namespace Go.Proofs.Ytnepjgnnppfibaa
open Go Go.RowKit

/-- The removal of a zone by the line a/b + (c/d) q, times b d. -/
def remN (m : Rm) (a b c d : Int) (z : Nat) : Int := m.h z * (b * d) - a * d - c * m.q z * b
structure LnOk (a b c d : Int) : Prop where
  a1 : -1000000000 ≤ a
  a2 : a ≤ 1000000000
  b1 : 1 ≤ b
  b2 : b ≤ 1000
  c1 : -1000000000 ≤ c
  c2 : c ≤ 1000000000
  d1 : 1 ≤ d
  d2 : d ≤ 1000
theorem rem_in {m : Rm} (hm : m.Ok) {a b c d : Int} (hl : LnOk a b c d) {z : Nat} (hz : z < m.n) : (1 ≤ b * d ∧ b * d ≤ 1000000) ∧ (-100000000000 ≤ m.h z * (b * d) ∧ m.h z * (b * d) ≤ 100000000000) ∧ (-1000000000000 ≤ a * d ∧ a * d ≤ 1000000000000) ∧ (-1000000000000 ≤ c * m.q z ∧ c * m.q z ≤ 1000000000000) ∧ (-1000000000000000 ≤ c * m.q z * b ∧ c * m.q z * b ≤ 1000000000000000) := by
  obtain ⟨a1, a2, b1, b2, c1, c2, d1, d2⟩ := hl
  have r1 := hm.h z hz
  have r2 := hm.q z hz
  have p0 := prod_small (x := b) (y := d) (X := 1000) (Y := 1000) (by omega) (by omega) (by omega) (by omega)
  have p00 : 1 ≤ b * d := Int.mul_le_mul b1 d1 (by omega) (by omega)
  have p1 := prod_small (x := m.h z) (y := b * d) (X := 100000) (Y := 1000000) (by omega) (by omega) (by omega) (by omega)
  have p2 := prod_small (x := a) (y := d) (X := 1000000000) (Y := 1000) (by omega) (by omega) (by omega) (by omega)
  have p3 := prod_small (x := c) (y := m.q z) (X := 1000000000) (Y := 1000) (by omega) (by omega) (by omega) (by omega)
  have p4 := prod_small (x := c * m.q z) (y := b) (X := 1000000000000) (Y := 1000) (by omega) (by omega) (by omega) (by omega)
  omega

set_option maxRecDepth 100000 in
set_option maxHeartbeats 4000000 in
theorem removal_is (m : Rm) (hm : m.Ok) (a b c d ta tb : Int) (hl : LnOk a b c d) (z : Nat) (hz : z < m.n) (r v : Int) (hr : remN m a b c d z = r) (hv : b * d = v) (w : World) (hx : RmAt m w) :
    Calls Try.prog 91 #[m.val, .agg #[.int .i64 a, .int .i64 b, .int .i64 c, .int .i64 d, .int .i64 ta, .int .i64 tb], .int .i64 (z : Int)] w fun e w' => e = .returned (.tuple #[.int .i64 r, .int .i64 v]) ∧ Below w.heap.size w w' := by
  obtain ⟨q0, q1, q2, q3, q4⟩ := rem_in hm hl hz
  unfold remN at hr
  rw [hv] at hr q0 q1
  have e0 : IntKind.i64.wrap (b * d) = v := by rw [hv]; exact IntWalk.i64_in v ⟨by omega, by omega⟩
  have e1 := IntWalk.i64_in (m.h z * v) ⟨by omega, by omega⟩
  have e2 := IntWalk.i64_in (a * d) ⟨by omega, by omega⟩
  have e3 := IntWalk.i64_in (m.h z * v - a * d) ⟨by omega, by omega⟩
  have e4 := IntWalk.i64_in (c * m.q z) ⟨by omega, by omega⟩
  have e5 := IntWalk.i64_in (c * m.q z * b) ⟨by omega, by omega⟩
  have e6 : IntKind.i64.wrap (m.h z * v - a * d - c * m.q z * b) = r := by rw [hr]; exact IntWalk.i64_in r ⟨by omega, by omega⟩
  have d1 := hx.r1 z hz
  have d2 := hx.r2 z hz
  have l1 := hx.l1
  have l2 := hx.l2
  have hzz : (z : Int) < (m.n : Int) := by omega
  clear hr hv hm hl hx q0 q1 q2 q3 q4
  unfold Rm.val
  go_enter Try.func91, Try.ntmps91
  have C0_0 := Lib.hid d1
  have C1_0 := Lib.hid d2
  clear d1 d2
  go_wp2
  generalize hwn : ((w.alloc (.cells #[.slice (some ⟨m.b1, m.o1, none⟩) m.n m.c1, .slice (some ⟨m.b2, m.o2, none⟩) m.n m.c2, .slice (some ⟨m.b3, m.o3, none⟩) m.n m.c3] 24)).alloc (.cells #[.int .i64 (a), .int .i64 (b), .int .i64 (c), .int .i64 (d), .int .i64 (ta), .int .i64 (tb)] 75)) = w1
  have hbn : Below w.heap.size w w1 := by rw [← hwn]; repeat' (first | exact Below.refl _ _ | refine below_drewN ?_ _ | refine Below.drew ?_ | refine Below.alloc ?_ (by first | omega | (simp; done) | (simp; omega) | (simp [World.setCell]; omega)) _ | refine Below.setCell ?_ (by first | omega | (simp; done) | (simp; omega)) _)
  have HB1 := Lib.hid (show Below w.heap.size w w1 from hbn)
  have K0_1 := Lib.hid (show Blk w1 (w.heap.size) 24 #[.slice (some ⟨m.b1, m.o1, none⟩) m.n m.c1, .slice (some ⟨m.b2, m.o2, none⟩) m.n m.c2, .slice (some ⟨m.b3, m.o3, none⟩) m.n m.c3] by rw [← hwn]; repeat' (first | exact Blk.at_ _ (by first | rfl | (simp; done) | (simp; omega)) _ _ | refine Blk.drewN ?_ _ | refine Blk.drew ?_ | refine Blk.alloc ?_ _ | refine Blk.far ?_ (by first | omega | (simp; done) | (simp; omega)) _ | assumption))
  have K1_1 := Lib.hid (show Blk w1 (w.heap.size + 1) 75 #[.int .i64 (a), .int .i64 (b), .int .i64 (c), .int .i64 (d), .int .i64 (ta), .int .i64 (tb)] by rw [← hwn]; repeat' (first | exact Blk.at_ _ (by first | rfl | (simp; done) | (simp; omega)) _ _ | refine Blk.drewN ?_ _ | refine Blk.drew ?_ | refine Blk.alloc ?_ _ | refine Blk.far ?_ (by first | omega | (simp; done) | (simp; omega)) _ | assumption))
  have C0_1 := Lib.hid (step_cell hbn C0_0.out (by have := l1; first | omega | (simp; omega)))
  have C1_1 := Lib.hid (step_cell hbn C1_0.out (by have := l2; first | omega | (simp; omega)))
  have HN1 := Lib.hid hbn
  have hz1 := hbn.size
  clear hwn hbn
  have l0_1 : w.heap.size < w1.heap.size := K0_1.out.lt
  have z0_0_1 : w1.cell? ⟨w.heap.size, 0, none⟩ = some (.slice (some ⟨m.b1, m.o1, none⟩) m.n m.c1) := K0_1.out.cell 0
  have z0_1_1 : w1.cell? ⟨w.heap.size, 1, none⟩ = some (.slice (some ⟨m.b2, m.o2, none⟩) m.n m.c2) := K0_1.out.cell 1
  have z0_2_1 : w1.cell? ⟨w.heap.size, 2, none⟩ = some (.slice (some ⟨m.b3, m.o3, none⟩) m.n m.c3) := K0_1.out.cell 2
  have l1_1 : w.heap.size + 1 < w1.heap.size := K1_1.out.lt
  have z1_0_1 : w1.cell? ⟨w.heap.size + 1, 0, none⟩ = some (.int .i64 (a)) := K1_1.out.cell 0
  have z1_1_1 : w1.cell? ⟨w.heap.size + 1, 1, none⟩ = some (.int .i64 (b)) := K1_1.out.cell 1
  have z1_2_1 : w1.cell? ⟨w.heap.size + 1, 2, none⟩ = some (.int .i64 (c)) := K1_1.out.cell 2
  have z1_3_1 : w1.cell? ⟨w.heap.size + 1, 3, none⟩ = some (.int .i64 (d)) := K1_1.out.cell 3
  have z1_4_1 : w1.cell? ⟨w.heap.size + 1, 4, none⟩ = some (.int .i64 (ta)) := K1_1.out.cell 4
  have z1_5_1 : w1.cell? ⟨w.heap.size + 1, 5, none⟩ = some (.int .i64 (tb)) := K1_1.out.cell 5
  refine Fx.regionW (fun W f w' => Below W.heap.size W w') (by kernel_rfl) (by kernel_rfl) ?_ ?_
  · intro f hf0
    exact below_drewN (Below.refl _ _) 1
  repeat (first
    | (refine Fx.skip_ (by rfl) (fun f w h => h) ?_; simp only [Act.put, List.setIfInBounds_toArray, List.set_cons_zero, List.set_cons_succ])
    | (refine Fx.val_ ?_ (by rfl) ?_ (fun f w h => h) ?_
       rotate_left
       · intro f w' hD hk
         have hb := hD
         have kb0 := step_blk hb (show Blk _ (w.heap.size) 24 #[.slice (some ⟨m.b1, m.o1, none⟩) m.n m.c1, .slice (some ⟨m.b2, m.o2, none⟩) m.n m.c2, .slice (some ⟨m.b3, m.o3, none⟩) m.n m.c3] by repeat' (first | exact K0_1.out | exact K1_1.out | exact Blk.at_ _ (by first | rfl | (simp; done) | (simp; omega)) _ _ | refine Blk.drewN ?_ _ | refine Blk.drew ?_ | refine Blk.alloc ?_ _ | refine Blk.far ?_ (by first | omega | (simp; done) | (simp; omega)) _ | assumption))
         have y0_0 : w'.cell? ⟨w.heap.size, 0, none⟩ = some (.slice (some ⟨m.b1, m.o1, none⟩) m.n m.c1) := kb0.cell 0
         have y0_1 : w'.cell? ⟨w.heap.size, 1, none⟩ = some (.slice (some ⟨m.b2, m.o2, none⟩) m.n m.c2) := kb0.cell 1
         have y0_2 : w'.cell? ⟨w.heap.size, 2, none⟩ = some (.slice (some ⟨m.b3, m.o3, none⟩) m.n m.c3) := kb0.cell 2
         have kb1 := step_blk hb (show Blk _ (w.heap.size + 1) 75 #[.int .i64 (a), .int .i64 (b), .int .i64 (c), .int .i64 (d), .int .i64 (ta), .int .i64 (tb)] by repeat' (first | exact K0_1.out | exact K1_1.out | exact Blk.at_ _ (by first | rfl | (simp; done) | (simp; omega)) _ _ | refine Blk.drewN ?_ _ | refine Blk.drew ?_ | refine Blk.alloc ?_ _ | refine Blk.far ?_ (by first | omega | (simp; done) | (simp; omega)) _ | assumption))
         have y1_0 : w'.cell? ⟨w.heap.size + 1, 0, none⟩ = some (.int .i64 (a)) := kb1.cell 0
         have y1_1 : w'.cell? ⟨w.heap.size + 1, 1, none⟩ = some (.int .i64 (b)) := kb1.cell 1
         have y1_2 : w'.cell? ⟨w.heap.size + 1, 2, none⟩ = some (.int .i64 (c)) := kb1.cell 2
         have y1_3 : w'.cell? ⟨w.heap.size + 1, 3, none⟩ = some (.int .i64 (d)) := kb1.cell 3
         have y1_4 : w'.cell? ⟨w.heap.size + 1, 4, none⟩ = some (.int .i64 (ta)) := kb1.cell 4
         have y1_5 : w'.cell? ⟨w.heap.size + 1, 5, none⟩ = some (.int .i64 (tb)) := kb1.cell 5
         have yc0 : w'.cell? ⟨m.b1, m.o1 + z, none⟩ = some (.int .i64 (m.h z)) := step_cell hb (show World.cell? _ ⟨m.b1, m.o1 + z, none⟩ = some (.int .i64 (m.h z)) by first | exact C0_1.out | go_simp) (by have := l1; first | omega | (simp; omega))
         have yc1 : w'.cell? ⟨m.b2, m.o2 + z, none⟩ = some (.int .i64 (m.q z)) := step_cell hb (show World.cell? _ ⟨m.b2, m.o2 + z, none⟩ = some (.int .i64 (m.q z)) by first | exact C1_1.out | go_simp) (by have := l2; first | omega | (simp; omega))
         clear kb0 kb1
         clear hk hD hb
         go_simp
         try rfl
       simp only [Act.put, List.setIfInBounds_toArray, List.set_cons_zero, List.set_cons_succ]))
  refine Fx.nil_ ?_
  intro f w2 hall hb
  try clear hall
  have HB12 := Lib.hid hb
  have HB2 := Lib.hid (show Below w.heap.size w w2 from step_below hb (by repeat' (first | exact Below.refl _ _ | exact HB1.out | refine below_drewN ?_ _ | refine Below.drew ?_ | refine Below.alloc ?_ (by first | omega | (simp; done) | (simp; omega) | (simp [World.setCell]; omega)) _ | refine Below.setCell ?_ (by first | omega | (simp; done) | (simp; omega)) _ | assumption)))
  have K0_2 := Lib.hid (step_blk hb (show Blk _ (w.heap.size) 24 #[.slice (some ⟨m.b1, m.o1, none⟩) m.n m.c1, .slice (some ⟨m.b2, m.o2, none⟩) m.n m.c2, .slice (some ⟨m.b3, m.o3, none⟩) m.n m.c3] by repeat' (first | exact K0_1.out | exact K1_1.out | exact Blk.at_ _ (by first | rfl | (simp; done) | (simp; omega)) _ _ | refine Blk.drewN ?_ _ | refine Blk.drew ?_ | refine Blk.alloc ?_ _ | refine Blk.far ?_ (by first | omega | (simp; done) | (simp; omega)) _ | assumption)))
  have K1_2 := Lib.hid (step_blk hb (show Blk _ (w.heap.size + 1) 75 #[.int .i64 (a), .int .i64 (b), .int .i64 (c), .int .i64 (d), .int .i64 (ta), .int .i64 (tb)] by repeat' (first | exact K0_1.out | exact K1_1.out | exact Blk.at_ _ (by first | rfl | (simp; done) | (simp; omega)) _ _ | refine Blk.drewN ?_ _ | refine Blk.drew ?_ | refine Blk.alloc ?_ _ | refine Blk.far ?_ (by first | omega | (simp; done) | (simp; omega)) _ | assumption)))
  have C0_2 := Lib.hid (step_cell hb (show World.cell? _ ⟨m.b1, m.o1 + z, none⟩ = some (.int .i64 (m.h z)) by first | exact C0_1.out | go_simp) (by have := l1; first | omega | (simp; omega)))
  have C1_2 := Lib.hid (step_cell hb (show World.cell? _ ⟨m.b2, m.o2 + z, none⟩ = some (.int .i64 (m.q z)) by first | exact C1_1.out | go_simp) (by have := l2; first | omega | (simp; omega)))
  have hz2 := hb.size
  try simp only [World.size_alloc, World.drewN, World.drew] at hz2
  clear hb K0_1 K1_1 z0_0_1 z0_1_1 z0_2_1 l0_1 z1_0_1 z1_1_1 z1_2_1 z1_3_1 z1_4_1 z1_5_1 l1_1
  have l0_2 : w.heap.size < w2.heap.size := K0_2.out.lt
  have z0_0_2 : w2.cell? ⟨w.heap.size, 0, none⟩ = some (.slice (some ⟨m.b1, m.o1, none⟩) m.n m.c1) := K0_2.out.cell 0
  have z0_1_2 : w2.cell? ⟨w.heap.size, 1, none⟩ = some (.slice (some ⟨m.b2, m.o2, none⟩) m.n m.c2) := K0_2.out.cell 1
  have z0_2_2 : w2.cell? ⟨w.heap.size, 2, none⟩ = some (.slice (some ⟨m.b3, m.o3, none⟩) m.n m.c3) := K0_2.out.cell 2
  have l1_2 : w.heap.size + 1 < w2.heap.size := K1_2.out.lt
  have z1_0_2 : w2.cell? ⟨w.heap.size + 1, 0, none⟩ = some (.int .i64 (a)) := K1_2.out.cell 0
  have z1_1_2 : w2.cell? ⟨w.heap.size + 1, 1, none⟩ = some (.int .i64 (b)) := K1_2.out.cell 1
  have z1_2_2 : w2.cell? ⟨w.heap.size + 1, 2, none⟩ = some (.int .i64 (c)) := K1_2.out.cell 2
  have z1_3_2 : w2.cell? ⟨w.heap.size + 1, 3, none⟩ = some (.int .i64 (d)) := K1_2.out.cell 3
  have z1_4_2 : w2.cell? ⟨w.heap.size + 1, 4, none⟩ = some (.int .i64 (ta)) := K1_2.out.cell 4
  have z1_5_2 : w2.cell? ⟨w.heap.size + 1, 5, none⟩ = some (.int .i64 (tb)) := K1_2.out.cell 5
  go_wp2
  go_ret2
  exact ⟨rfl, HB2.out⟩

set_option maxRecDepth 100000 in
theorem max_any (A : Option Addr) (n c : Nat) (l : List Int) (hn : 1 ≤ n) (hn2 : n ≤ 1000) (hl : ∀ z ∈ l, 0 ≤ z ∧ z ≤ 1000) (w : World) (hx : Reads w w.heap.size 1 A n (l.map (.int .i64))) :
    Calls Try.prog 80 #[.slice A n c] w fun e w' => (∃ v : Int, e = .returned (.int .i64 v) ∧ (v = 0 ↔ ∀ z ∈ l, z = 0)) ∧ w = w' := by
  have hlen : l.length = n := by have := hx.1; simpa using this
  obtain ⟨gb, go, z0, rfl, hgb, hz0, c0⟩ := hx.int_ (show 0 < n by omega)
  simp only [Nat.add_zero] at c0
  have r0 := hl z0 (List.mem_of_getElem? hz0)
  have HX := Lib.hid hx
  have HL := Lib.hid hl
  have HLEN := Lib.hid hlen
  have HZ0 := Lib.hid hz0
  have hd1 : ¬ n < 1 := by omega
  have hd2 : (0 : Int) < (n : Int) := by omega
  have hd3 : 0 < n := by omega
  clear hx hl hlen hz0
  go_enter Try.func80, Try.ntmps80
  go_wp2
  go_loopw [3, 4] (fun v i wr => ∃ (k : Nat) (a : Int), 1 ≤ k ∧ k ≤ n ∧ v = .int .i64 a ∧ i = .int .i64 k ∧ 0 ≤ a ∧ a ≤ 1000 ∧ (a = 0 ↔ ∀ z ∈ l.take k, z = 0) ∧ w = wr) (fun _ i _ => n - (intOf i).toNat)
  case atStart =>
    refine ⟨1, z0, Nat.le_refl _, hn, rfl, rfl, r0.1, r0.2, ?_, rfl⟩
    have e : l.take 1 = [z0] := by
      have := HZ0.out
      cases l with
      | nil => simp at this
      | cons q t => obtain rfl : q = z0 := by simpa using this
                    rfl
    rw [e]
    simp
  case round =>
    obtain ⟨k, a, hk1, hk, rfl, rfl, ha1, ha2, hq, rfl⟩ := hrel
    have HQ := Lib.hid hq
    clear hq
    by_cases hlt : k < n
    · obtain ⟨yb, yo, z, hA, -, hz, c1⟩ := HX.out.int_ hlt
      obtain ⟨rfl, rfl⟩ : gb = yb ∧ go = yo := by simpa using hA
      have rz := HL.out z (List.mem_of_getElem? hz)
      have hkk : (k : Int) < (n : Int) := by omega
      have hnx : (∀ y ∈ l.take (k + 1), y = 0) ↔ (∀ y ∈ l.take k, y = 0) ∧ z = 0 := by
        rw [List.take_add_one, hz]
        constructor
        · intro h; exact ⟨fun y hy => h y (List.mem_append_left _ hy), h z (by simp)⟩
        · rintro ⟨h1, h2⟩ y hy
          rcases List.mem_append.1 hy with hy | hy
          · exact h1 y hy
          · obtain rfl : y = z := by simpa using hy
            exact h2
      have HNX := Lib.hid hnx
      clear hnx hz hA
      by_cases haz : a < z
      · go_wp2
        go_roundw
        case rel => exact ⟨k + 1, z, by omega, by omega, rfl, by go_num, by omega, by omega, by rw [HNX.out, ← HQ.out]; omega, trivial⟩
        case measure => simp [intOf]; omega
      · have haz' : z ≤ a := by omega
        go_wp2
        go_roundw
        case rel => exact ⟨k + 1, a, by omega, by omega, rfl, by go_num, by omega, by omega, by rw [HNX.out, ← HQ.out]; omega, trivial⟩
        case measure => simp [intOf]; omega
    · obtain rfl : k = n := by omega
      go_wp2
      go_ret
      exact ⟨⟨a, rfl, by rw [HQ.out, List.take_of_length_le (by rw [HLEN.out]; omega)]⟩, rfl⟩
end Go.Proofs.Ytnepjgnnppfibaa

end

section
/- The contract of the check of a map. -/
namespace Go.Proofs.Ytnepjgnnppfibaa
open Go Go.RowKit

def zoneB (hs qs ws : List Int) (i : Nat) : Bool := hgtB (hs.getD i 0) && (withinB (qs.getD i 0) 0 1000 && withinB (ws.getD i 0) 0 1000)
/-- The error of a map. -/
def mapErr (hs qs ws : List Int) : Int := if hs.length < 1 ∨ 40 < hs.length ∨ qs.length ≠ hs.length ∨ ws.length ≠ hs.length then 10 else if (List.range hs.length).all (zoneB hs qs ws) then (if ws.all (fun z => decide (z = 0)) then 11 else 0) else 2
theorem map_shape {hs qs ws : List Int} (h : hs.length < 1 ∨ 40 < hs.length ∨ qs.length ≠ hs.length ∨ ws.length ≠ hs.length) : mapErr hs qs ws = 10 := by unfold mapErr; rw [if_pos h]
theorem map_bad {hs qs ws : List Int} (h : ¬ (hs.length < 1 ∨ 40 < hs.length ∨ qs.length ≠ hs.length ∨ ws.length ≠ hs.length)) {k : Nat} (hk : k < hs.length) (hz : zoneB hs qs ws k = false) : mapErr hs qs ws = 2 := by
  unfold mapErr
  rw [if_neg h, if_neg]
  intro ha
  have := List.all_eq_true.1 ha k (List.mem_range.2 hk)
  rw [hz] at this
  cases this
theorem map_all {hs qs ws : List Int} (h : ¬ (hs.length < 1 ∨ 40 < hs.length ∨ qs.length ≠ hs.length ∨ ws.length ≠ hs.length)) (hz : ∀ k, k < hs.length → zoneB hs qs ws k = true) : mapErr hs qs ws = if ws.all (fun z => decide (z = 0)) then 11 else 0 := by
  unfold mapErr
  rw [if_neg h, if_pos (List.all_eq_true.2 fun k hk => hz k (List.mem_range.1 hk))]

set_option maxRecDepth 100000 in
set_option maxHeartbeats 4000000 in
theorem checkmap_is (A1 : Option Addr) (n1 c1 : Nat) (hs : List Int) (A2 : Option Addr) (n2 c2 : Nat) (qs : List Int) (A3 : Option Addr) (n3 c3 : Nat) (ws : List Int) (E : Int) (hE : mapErr hs qs ws = E) (w : World)
    (r1 : Reads w w.heap.size 1 A1 n1 (hs.map (.int .i64))) (r2 : Reads w w.heap.size 1 A2 n2 (qs.map (.int .i64))) (r3 : Reads w w.heap.size 1 A3 n3 (ws.map (.int .i64))) (hc1 : n1 ≤ 9223372036854775807) (hc2 : n2 ≤ 9223372036854775807) (hc3 : n3 ≤ 9223372036854775807) :
    Calls Try.prog 23 #[.agg #[.slice A1 n1 c1, .slice A2 n2 c2, .slice A3 n3 c3]] w fun e w' => e = .returned (.int .i64 E) ∧ Below w.heap.size w w' := by
  have l1 : hs.length = n1 := by have := r1.1; simpa using this
  have l2 : qs.length = n2 := by have := r2.1; simpa using this
  have l3 : ws.length = n3 := by have := r3.1; simpa using this
  have HE := Lib.hid hE
  have R1 := Lib.hid r1
  have R2 := Lib.hid r2
  have R3 := Lib.hid r3
  clear hE r1 r2 r3
  cases hz : withinB (n1 : Int) 1 40
  · have e : (10 : Int) = E := by rw [← HE.out, map_shape (by have := zones_no hz; omega)]
    have HEE := Lib.hid e
    have HZ := Lib.hid hz
    clear hz e l1 l2 l3
    go_enter Try.func23, Try.ntmps23
    go_wp2_with fail
    refine (iszones_is _ false HZ.out _).mono ?_
    rintro e w' ⟨rfl, rfl⟩
    go_wp2
    go_ret
    exact ⟨ret_int HEE.out, by repeat' (first | exact Below.refl _ _ | assumption | refine below_drewN ?_ _ | refine Below.drew ?_ | refine Below.alloc ?_ (by first | omega | (simp; done) | (simp; omega)) _ | refine Below.setCell ?_ (by first | omega | (simp; done) | (simp; omega)) _)⟩
  have hzy := zones_yes hz
  have HZ := Lib.hid hz
  by_cases h2 : n2 = n1
  rotate_left
  · have e : (10 : Int) = E := by rw [← HE.out, map_shape (by omega)]
    have HEE := Lib.hid e
    have hd : ((n2 : Int) != (n1 : Int)) = true := by simp; omega
    clear hz e l1 l2 l3 h2 hzy
    go_enter Try.func23, Try.ntmps23
    go_wp2_with fail
    refine (iszones_is _ true HZ.out _).mono ?_
    rintro e w' ⟨rfl, rfl⟩
    go_wp2
    go_ret
    exact ⟨ret_int HEE.out, by repeat' (first | exact Below.refl _ _ | assumption | refine below_drewN ?_ _ | refine Below.drew ?_ | refine Below.alloc ?_ (by first | omega | (simp; done) | (simp; omega)) _ | refine Below.setCell ?_ (by first | omega | (simp; done) | (simp; omega)) _)⟩
  by_cases h3 : n3 = n1
  rotate_left
  · have e : (10 : Int) = E := by rw [← HE.out, map_shape (by omega)]
    have HEE := Lib.hid e
    have hd : ((n2 : Int) != (n1 : Int)) = false := by simp; omega
    have hd3 : ((n3 : Int) != (n1 : Int)) = true := by simp; omega
    clear hz e l1 l2 l3 h2 h3 hzy
    go_enter Try.func23, Try.ntmps23
    go_wp2_with fail
    refine (iszones_is _ true HZ.out _).mono ?_
    rintro e w' ⟨rfl, rfl⟩
    go_wp2
    go_ret
    exact ⟨ret_int HEE.out, by repeat' (first | exact Below.refl _ _ | assumption | refine below_drewN ?_ _ | refine Below.drew ?_ | refine Below.alloc ?_ (by first | omega | (simp; done) | (simp; omega)) _ | refine Below.setCell ?_ (by first | omega | (simp; done) | (simp; omega)) _)⟩
  subst h2 h3
  have HSH : Hid (¬ (hs.length < 1 ∨ 40 < hs.length ∨ qs.length ≠ hs.length ∨ ws.length ≠ hs.length)) := by show ¬ _; rw [l1, l2, l3]; omega
  have hn40 : n3 ≤ 40 := by omega
  have hn1 : 1 ≤ n3 := by omega
  have HL := Lib.hid l1
  have HL3 := Lib.hid l3
  obtain ⟨b1, o1, z1, rfl, hb1, -, -⟩ := R1.out.int_ (show 0 < n3 by omega)
  obtain ⟨b2, o2, z2, rfl, hb2, -, -⟩ := R2.out.int_ (show 0 < n3 by omega)
  obtain ⟨b3, o3, z3, rfl, hb3, -, -⟩ := R3.out.int_ (show 0 < n3 by omega)
  clear hz hzy l1 l2 l3 hc1 hc2 hc3 z1 z2 z3
  go_enter Try.func23, Try.ntmps23
  go_wp2_with fail
  refine (iszones_is _ true HZ.out _).mono ?_
  rintro e w' ⟨rfl, rfl⟩
  go_wp2
  generalize hwn : (w.alloc (.cells #[.slice (some ⟨b1, o1, none⟩) n3 c1, .slice (some ⟨b2, o2, none⟩) n3 c2, .slice (some ⟨b3, o3, none⟩) n3 c3] 24)) = w1
  have hbn : Below w.heap.size w w1 := by rw [← hwn]; repeat' (first | exact Below.refl _ _ | refine below_drewN ?_ _ | refine Below.drew ?_ | refine Below.alloc ?_ (by first | omega | (simp; done) | (simp; omega) | (simp [World.setCell]; omega)) _ | refine Below.setCell ?_ (by first | omega | (simp; done) | (simp; omega)) _)
  have HB1 := Lib.hid (show Below w.heap.size w w1 from hbn)
  have K0_1 := Lib.hid (show Blk w1 (w.heap.size) 24 #[.slice (some ⟨b1, o1, none⟩) n3 c1, .slice (some ⟨b2, o2, none⟩) n3 c2, .slice (some ⟨b3, o3, none⟩) n3 c3] by rw [← hwn]; repeat' (first | exact Blk.at_ _ (by first | rfl | (simp; done) | (simp; omega)) _ _ | refine Blk.drewN ?_ _ | refine Blk.drew ?_ | refine Blk.alloc ?_ _ | refine Blk.far ?_ (by first | omega | (simp; done) | (simp; omega)) _ | assumption))
  have HN1 := Lib.hid hbn
  have hz1 := hbn.size
  clear hwn hbn
  have l0_1 : w.heap.size < w1.heap.size := K0_1.out.lt
  have z0_0_1 : w1.cell? ⟨w.heap.size, 0, none⟩ = some (.slice (some ⟨b1, o1, none⟩) n3 c1) := K0_1.out.cell 0
  have z0_1_1 : w1.cell? ⟨w.heap.size, 1, none⟩ = some (.slice (some ⟨b2, o2, none⟩) n3 c2) := K0_1.out.cell 1
  have z0_2_1 : w1.cell? ⟨w.heap.size, 2, none⟩ = some (.slice (some ⟨b3, o3, none⟩) n3 c3) := K0_1.out.cell 2
  have hs1 := HB1.out.size
  go_loopw [29] (fun i wr => ∃ k : Nat, k ≤ n3 ∧ i = .int .i64 k ∧ w1 = wr ∧ ∀ j, j < k → zoneB hs qs ws j = true) (fun i _ => n3 - (intOf i).toNat)
  case atStart => exact ⟨0, by omega, rfl, rfl, fun j hj => absurd hj (by omega)⟩
  case round =>
    obtain ⟨k, hk, rfl, rfl, hup⟩ := hrel
    have HUP := Lib.hid hup
    clear hup
    by_cases hlt : k < n3
    · obtain ⟨yb, yo, x1, hA, -, g1, d1⟩ := (R1.out.below HB1.out).int_ hlt
      obtain ⟨rfl, rfl⟩ : b1 = yb ∧ o1 = yo := by simpa using hA
      obtain ⟨yb, yo, x2, hA2, -, g2, d2⟩ := (R2.out.below HB1.out).int_ hlt
      obtain ⟨rfl, rfl⟩ : b2 = yb ∧ o2 = yo := by simpa using hA2
      obtain ⟨yb, yo, x3, hA3, -, g3, d3⟩ := (R3.out.below HB1.out).int_ hlt
      obtain ⟨rfl, rfl⟩ : b3 = yb ∧ o3 = yo := by simpa using hA3
      have hzo : zoneB hs qs ws k = (hgtB x1 && (withinB x2 0 1000 && withinB x3 0 1000)) := by
        unfold zoneB
        rw [getD_of g1, getD_of g2, getD_of g3]
      have hkk : (k : Int) < (n3 : Int) := by omega
      have HZO := Lib.hid hzo
      clear hA hA2 hA3 g1 g2 g3 hzo
      cases h1 : hgtB x1
      · have H1 := Lib.hid h1
        have HEE := Lib.hid ((map_bad HSH.out (by rw [HL.out]; exact hlt) (by rw [HZO.out, h1]; rfl)).symm.trans HE.out)
        clear h1
        go_wp2_with fail
        refine (withinfig_is _ _ _ false H1.out _).mono ?_
        rintro e w' ⟨rfl, rfl⟩
        go_wp2
        go_ret
        exact ⟨ret_int HEE.out, HB1.out⟩
      have H1 := Lib.hid h1
      cases h2 : withinB x2 0 1000
      · have H2 := Lib.hid h2
        have HEE := Lib.hid ((map_bad HSH.out (by rw [HL.out]; exact hlt) (by rw [HZO.out, h1, h2]; rfl)).symm.trans HE.out)
        clear h1 h2
        go_wp2_with fail
        refine (withinfig_is _ _ _ true H1.out _).mono ?_
        rintro e w' ⟨rfl, rfl⟩
        go_wp2_with fail
        refine (withinfig_is _ _ _ false H2.out _).mono ?_
        rintro e w' ⟨rfl, rfl⟩
        go_wp2
        go_ret
        exact ⟨ret_int HEE.out, HB1.out⟩
      have H2 := Lib.hid h2
      cases h3 : withinB x3 0 1000
      · have H3 := Lib.hid h3
        have HEE := Lib.hid ((map_bad HSH.out (by rw [HL.out]; exact hlt) (by rw [HZO.out, h1, h2, h3]; rfl)).symm.trans HE.out)
        clear h1 h2 h3
        go_wp2_with fail
        refine (withinfig_is _ _ _ true H1.out _).mono ?_
        rintro e w' ⟨rfl, rfl⟩
        go_wp2_with fail
        refine (withinfig_is _ _ _ true H2.out _).mono ?_
        rintro e w' ⟨rfl, rfl⟩
        go_wp2_with fail
        refine (withinfig_is _ _ _ false H3.out _).mono ?_
        rintro e w' ⟨rfl, rfl⟩
        go_wp2
        go_ret
        exact ⟨ret_int HEE.out, HB1.out⟩
      have H3 := Lib.hid h3
      have hok : zoneB hs qs ws k = true := by rw [HZO.out, h1, h2, h3]; rfl
      have HOK := Lib.hid hok
      clear h1 h2 h3 hok
      go_wp2_with fail
      refine (withinfig_is _ _ _ true H1.out _).mono ?_
      rintro e w' ⟨rfl, rfl⟩
      go_wp2_with fail
      refine (withinfig_is _ _ _ true H2.out _).mono ?_
      rintro e w' ⟨rfl, rfl⟩
      go_wp2_with fail
      refine (withinfig_is _ _ _ true H3.out _).mono ?_
      rintro e w' ⟨rfl, rfl⟩
      go_wp2
      go_roundw
      case rel => exact ⟨k + 1, by omega, by go_num, trivial, fun j hj => by
        rcases Nat.lt_or_ge j k with h | h
        · exact HUP.out j h
        · obtain rfl : j = k := by omega
          exact HOK.out⟩
      case measure => simp [intOf]; omega
    · obtain rfl : k = n3 := by omega
      have hall := map_all HSH.out (fun j hj => HUP.out j (by rw [HL.out] at hj; exact hj))
      have hws : ∀ z ∈ ws, 0 ≤ z ∧ z ≤ 1000 := fun z hz => by
        obtain ⟨i, hi⟩ := List.getElem?_of_mem hz
        have h1 := HUP.out i (by rw [← HL3.out]; exact (List.getElem?_eq_some_iff.1 hi).1)
        unfold zoneB at h1
        rw [getD_of hi, Bool.and_eq_true, Bool.and_eq_true, withinB_iff] at h1
        exact within_yes h1.2.2
      have HALL := Lib.hid (hall.symm.trans HE.out)
      have HWS := Lib.hid hws
      clear hall hws
      go_wp2_with fail
      refine (max_any _ k c3 ws hn1 (by omega) HWS.out _ ((R3.out.below HB1.out).more HB1.out.size)).mono ?_
      rintro e w' ⟨⟨v, rfl, hv⟩, rfl⟩
      by_cases hv0 : v = 0
      · have hd : (v == 0) = true := by simpa using hv0
        have he : (11 : Int) = E := by rw [← HALL.out, if_pos (List.all_eq_true.2 fun z hz => by simpa using (hv.1 hv0) z hz)]
        have HEE := Lib.hid he
        clear hv hv0 he
        go_wp2
        go_ret
        exact ⟨ret_int HEE.out, HB1.out⟩
      · have hd : (v == 0) = false := by simpa using hv0
        have he : (0 : Int) = E := by
          rw [← HALL.out, if_neg]
          intro ha
          exact hv0 (hv.2 fun z hz => by simpa using List.all_eq_true.1 ha z hz)
        have HEE := Lib.hid he
        clear hv hv0 he
        go_wp2
        go_ret
        exact ⟨ret_int HEE.out, HB1.out⟩
end Go.Proofs.Ytnepjgnnppfibaa

end
