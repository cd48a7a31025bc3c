import Derived.Test.YtnepjgnnppfibaaQ20
import Derived.Test.YtnepjgnnppfibaaQ6

section
/- The reference's mean of a map. -/
namespace Go.Proofs.Ytnepjgnnppfibaa
open Go Go.RowKit

set_option maxRecDepth 100000 in
set_option maxHeartbeats 4000000 in
theorem rmean_ok (m : Rm) (hm : m.Ok) (hw1 : 1 ≤ m.sw m.n) (w : World) (hx : RmAt m w) (s v : Int) (hs : redN (m.sq m.n) (m.sw m.n) = s) (hv : redD (m.sq m.n) (m.sw m.n) = v) :
    Calls Try.prog 24 #[m.val] w fun e w' => e = .returned (.agg #[.int .i64 s, .int .i64 v]) ∧ Below w.heap.size w w' := by
  have hn2 := hm.n2
  have HX := Lib.hid hx
  have HM := Lib.hid hm
  have HS := Lib.hid hs
  have HV := Lib.hid hv
  have l1 := hx.l1
  have l2 := hx.l2
  have l3 := hx.l3
  clear hx hm hs hv
  unfold Rm.val
  go_enter Try.func24, Try.ntmps24
  go_wp2
  generalize hwn : ((w.alloc (.cells #[.slice (some ⟨m.b1, m.o1, none⟩) m.n m.c1, .slice (some ⟨m.b2, m.o2, none⟩) m.n m.c2, .slice (some ⟨m.b3, m.o3, none⟩) m.n m.c3] 24)).alloc (.cells #[.int .i64 (0), .int .i64 (0)] 28)) = w1
  have hbn : Below w.heap.size w w1 := by rw [← hwn]; repeat' (first | exact Below.refl _ _ | refine below_drewN ?_ _ | refine Below.drew ?_ | refine Below.alloc ?_ (by first | omega | (simp; done) | (simp; omega) | (simp [World.setCell]; omega)) _ | refine Below.setCell ?_ (by first | omega | (simp; done) | (simp; omega)) _)
  have HB1 := Lib.hid (show Below w.heap.size w w1 from hbn)
  have K0_1 := Lib.hid (show Blk w1 (w.heap.size) 24 #[.slice (some ⟨m.b1, m.o1, none⟩) m.n m.c1, .slice (some ⟨m.b2, m.o2, none⟩) m.n m.c2, .slice (some ⟨m.b3, m.o3, none⟩) m.n m.c3] by rw [← hwn]; repeat' (first | exact Blk.at_ _ (by first | rfl | (simp; done) | (simp; omega)) _ _ | refine Blk.drewN ?_ _ | refine Blk.drew ?_ | refine Blk.alloc ?_ _ | refine Blk.far ?_ (by first | omega | (simp; done) | (simp; omega)) _ | assumption))
  have K1_1 := Lib.hid (show Blk w1 (w.heap.size + 1) 28 #[.int .i64 (0), .int .i64 (0)] by rw [← hwn]; repeat' (first | exact Blk.at_ _ (by first | rfl | (simp; done) | (simp; omega)) _ _ | refine Blk.drewN ?_ _ | refine Blk.drew ?_ | refine Blk.alloc ?_ _ | refine Blk.far ?_ (by first | omega | (simp; done) | (simp; omega)) _ | assumption))
  have HN1 := Lib.hid hbn
  have hz1 := hbn.size
  clear hwn hbn
  have l0_1 : w.heap.size < w1.heap.size := K0_1.out.lt
  have z0_0_1 : w1.cell? ⟨w.heap.size, 0, none⟩ = some (.slice (some ⟨m.b1, m.o1, none⟩) m.n m.c1) := K0_1.out.cell 0
  have z0_1_1 : w1.cell? ⟨w.heap.size, 1, none⟩ = some (.slice (some ⟨m.b2, m.o2, none⟩) m.n m.c2) := K0_1.out.cell 1
  have z0_2_1 : w1.cell? ⟨w.heap.size, 2, none⟩ = some (.slice (some ⟨m.b3, m.o3, none⟩) m.n m.c3) := K0_1.out.cell 2
  have l1_1 : w.heap.size + 1 < w1.heap.size := K1_1.out.lt
  have z1_0_1 : w1.cell? ⟨w.heap.size + 1, 0, none⟩ = some (.int .i64 (0)) := K1_1.out.cell 0
  have z1_1_1 : w1.cell? ⟨w.heap.size + 1, 1, none⟩ = some (.int .i64 (0)) := K1_1.out.cell 1
  have hs1 := HB1.out.size
  have KA := K0_1
  have KB := K1_1
  go_loopw [3, 4, 5] (fun a b i wr => ∃ k : Nat, k ≤ m.n ∧ a = .int .i64 (m.sq k) ∧ b = .int .i64 (m.sw k) ∧ i = .int .i64 k ∧ Below w1.heap.size w1 wr) (fun _ _ i _ => m.n - (intOf i).toNat)
  case atStart => exact ⟨0, by omega, rfl, rfl, rfl, Below.refl _ _⟩
  case round =>
    obtain ⟨k, hk, rfl, rfl, rfl, hb⟩ := hrel
    obtain ⟨w2, hnm⟩ : ∃ z : World, z = wr := ⟨_, rfl⟩
    subst hnm
    have HBW := Lib.hid hb
    have k0 := Blk.below KA.out hb KA.out.lt
    have k1 := Blk.below KB.out hb KB.out.lt
    have hb2 := HB1.out.trans (hb.mono HB1.out.size)
    have HXA := Lib.hid (HX.out.lay hb2)
    clear hb
    have HB2 := Lib.hid hb2
    have K0_2 := Lib.hid (show Blk w2 (w.heap.size) 24 #[.slice (some ⟨m.b1, m.o1, none⟩) m.n m.c1, .slice (some ⟨m.b2, m.o2, none⟩) m.n m.c2, .slice (some ⟨m.b3, m.o3, none⟩) m.n m.c3] from k0)
    have K1_2 := Lib.hid (show Blk w2 (w.heap.size + 1) 28 #[.int .i64 (0), .int .i64 (0)] from k1)
    clear hb2 k0 k1
    have l0_2 : w.heap.size < w2.heap.size := K0_2.out.lt
    have z0_0_2 : w2.cell? ⟨w.heap.size, 0, none⟩ = some (.slice (some ⟨m.b1, m.o1, none⟩) m.n m.c1) := K0_2.out.cell 0
    have z0_1_2 : w2.cell? ⟨w.heap.size, 1, none⟩ = some (.slice (some ⟨m.b2, m.o2, none⟩) m.n m.c2) := K0_2.out.cell 1
    have z0_2_2 : w2.cell? ⟨w.heap.size, 2, none⟩ = some (.slice (some ⟨m.b3, m.o3, none⟩) m.n m.c3) := K0_2.out.cell 2
    have l1_2 : w.heap.size + 1 < w2.heap.size := K1_2.out.lt
    have z1_0_2 : w2.cell? ⟨w.heap.size + 1, 0, none⟩ = some (.int .i64 (0)) := K1_2.out.cell 0
    have z1_1_2 : w2.cell? ⟨w.heap.size + 1, 1, none⟩ = some (.int .i64 (0)) := K1_2.out.cell 1
    obtain ⟨a1, a2, a3⟩ := HM.out.sums (k := k) (by omega)
    by_cases hlt : k < m.n
    rotate_left
    · obtain rfl : k = m.n := by omega
      go_wp2_with fail
      refine (lowest_red _ _ s v HS.out HV.out _ (by omega) (by omega) (by omega) (by omega)).mono ?_
      rintro e w3 ⟨rfl, hb⟩
      have HB3 := Lib.hid (show Below w.heap.size w w3 from step_below hb (by repeat' (first | exact Below.refl _ _ | exact HB2.out | refine below_drewN ?_ _ | refine Below.drew ?_ | refine Below.alloc ?_ (by first | omega | (simp; done) | (simp; omega) | (simp [World.setCell]; omega)) _ | refine Below.setCell ?_ (by first | omega | (simp; done) | (simp; omega)) _ | assumption)))
      have K0_3 := Lib.hid (step_blk hb (show Blk _ (w.heap.size) 24 #[.slice (some ⟨m.b1, m.o1, none⟩) m.n m.c1, .slice (some ⟨m.b2, m.o2, none⟩) m.n m.c2, .slice (some ⟨m.b3, m.o3, none⟩) m.n m.c3] by repeat' (first | exact K0_2.out | exact K1_2.out | exact Blk.at_ _ (by first | rfl | (simp; done) | (simp; omega)) _ _ | refine Blk.drewN ?_ _ | refine Blk.drew ?_ | refine Blk.alloc ?_ _ | refine Blk.far ?_ (by first | omega | (simp; done) | (simp; omega)) _ | assumption)))
      have K1_3 := Lib.hid (step_blk hb (show Blk _ (w.heap.size + 1) 28 #[.int .i64 (0), .int .i64 (0)] by repeat' (first | exact K0_2.out | exact K1_2.out | exact Blk.at_ _ (by first | rfl | (simp; done) | (simp; omega)) _ _ | refine Blk.drewN ?_ _ | refine Blk.drew ?_ | refine Blk.alloc ?_ _ | refine Blk.far ?_ (by first | omega | (simp; done) | (simp; omega)) _ | assumption)))
      have hz3 := hb.size
      try simp only [World.size_alloc, World.drewN, World.drew] at hz3
      clear hb K0_2 K1_2 z0_0_2 z0_1_2 z0_2_2 l0_2 z1_0_2 z1_1_2 l1_2
      have l0_3 : w.heap.size < w3.heap.size := K0_3.out.lt
      have z0_0_3 : w3.cell? ⟨w.heap.size, 0, none⟩ = some (.slice (some ⟨m.b1, m.o1, none⟩) m.n m.c1) := K0_3.out.cell 0
      have z0_1_3 : w3.cell? ⟨w.heap.size, 1, none⟩ = some (.slice (some ⟨m.b2, m.o2, none⟩) m.n m.c2) := K0_3.out.cell 1
      have z0_2_3 : w3.cell? ⟨w.heap.size, 2, none⟩ = some (.slice (some ⟨m.b3, m.o3, none⟩) m.n m.c3) := K0_3.out.cell 2
      have l1_3 : w.heap.size + 1 < w3.heap.size := K1_3.out.lt
      have z1_0_3 : w3.cell? ⟨w.heap.size + 1, 0, none⟩ = some (.int .i64 (0)) := K1_3.out.cell 0
      have z1_1_3 : w3.cell? ⟨w.heap.size + 1, 1, none⟩ = some (.int .i64 (0)) := K1_3.out.cell 1
      have zf1_0 := K1_3.out.frozen 0
      have zf1_1 := K1_3.out.frozen 1
      go_wp2
      exact bodyPost_ret (v := .agg #[.int .i64 s, .int .i64 v]) (by simp [results, Try.results24, go_sem, z1_0_3, z1_1_3, l1_3]) rfl ⟨rfl, by repeat' (first | exact Below.refl _ _ | exact HB3.out | refine below_drewN ?_ _ | refine Below.drew ?_ | refine Below.alloc ?_ (by first | omega | (simp; done) | (simp; omega) | (simp [World.setCell]; omega)) _ | refine Below.setCell ?_ (by first | omega | (simp; done) | (simp; omega)) _ | assumption)⟩
    obtain ⟨b1, b2, b3⟩ := HM.out.sums (k := k + 1) (by omega)
    have eq1 : m.sq (k + 1) = m.sq k + m.u k * m.q k := rfl
    have ew1 : m.sw (k + 1) = m.sw k + m.u k := rfl
    obtain ⟨y, hy⟩ : ∃ y, m.u k * m.q k = y := ⟨_, rfl⟩
    rw [eq1, hy] at b2
    rw [ew1] at b1
    have g2 := HXA.out.r2 k hlt
    have g3 := HXA.out.r3 k hlt
    have e1 : IntKind.i64.wrap (m.u k * m.q k) = y := by rw [hy]; exact IntWalk.i64_in y ⟨by omega, by omega⟩
    have e2 := IntWalk.i64_in (m.sq k + y) ⟨by omega, by omega⟩
    have e3 := IntWalk.i64_in (m.sw k + m.u k) ⟨by omega, by omega⟩
    have hkk : (k : Int) < (m.n : Int) := by omega
    have hq1 : m.sq (k + 1) = m.sq k + y := by rw [eq1, hy]
    have HQ1 := Lib.hid hq1
    have HW1 := Lib.hid ew1
    have lx2 : m.b2 < w2.heap.size := HXA.out.l2
    have lx3 : m.b3 < w2.heap.size := HXA.out.l3
    clear eq1 ew1 hy hq1
    obtain ⟨uk, huk⟩ : ∃ u, m.u k = u := ⟨_, rfl⟩
    obtain ⟨qk, hqk⟩ : ∃ u, m.q k = u := ⟨_, rfl⟩
    obtain ⟨sq, hsq⟩ : ∃ u, m.sq k = u := ⟨_, rfl⟩
    obtain ⟨sw, hsw⟩ : ∃ u, m.sw k = u := ⟨_, rfl⟩
    have HQ2 := Lib.hid (show m.sq (k + 1) = sq + y by rw [HQ1.out, hsq])
    have HW2 := Lib.hid (show m.sw (k + 1) = sw + uk by rw [HW1.out, hsw, huk])
    rw [huk] at g3 e1 e3
    rw [hqk] at g2 e1
    rw [hsq] at e2
    rw [hsw] at e3
    rw [hsq, hsw]
    clear huk hqk hsq hsw HQ1 HW1
    go_wp2
    go_quiet (fail)
    go_wp2
    go_roundw
    case rel => exact ⟨k + 1, by omega, by rw [HQ2.out], by rw [HW2.out], by go_num, below_drewN HBW.out _⟩
    case measure => simp [intOf]; omega
end Go.Proofs.Ytnepjgnnppfibaa

end

section
/- A class of worlds for drawn regions of calls: what is chosen, of any type, keeps its facts. -/
namespace Go.Proofs.Ytnepjgnnppfibaa
open Go Go.RowKit

def StbT {α : Type} (Pf : Nat → α → World → Prop) : Prop := ∀ i x (w w' : World), Below w.heap.size w w' → Pf i x w → Pf i x w'
structure Kt {α : Type} (Pf : Nat → α → World → Prop) (W : World) (g : Nat → Option α) (w' : World) : Prop where
  bel : Below W.heap.size W w'
  has : ∀ i x, g i = some x → Pf i x w'
section
variable {α : Type} {Pf : Nat → α → World → Prop} {W w' w'' : World} {g : Nat → Option α} {f : Nat → Bool}
theorem Kt.start : Kt Pf W (fun _ => none) (W.drewN 1) := ⟨below_drewN (Below.refl _ _) 1, fun _ _ h => nomatch h⟩
theorem Kt.call (h : Kt Pf W g w') (hs : StbT Pf) (hb : Below w'.heap.size w' w'') : Kt Pf W g w'' := ⟨step_below hb h.bel, fun i x hx => hs i x _ _ hb (h.has i x hx)⟩
theorem Kt.choose (h : Kt Pf W g w') (hs : StbT Pf) (hb : Below w'.heap.size w' w'') (i : Nat) (x : α) (hx : Pf i x w'') : Kt Pf W (Fx.upd g i x) w'' := ⟨step_below hb h.bel, fun j y hy => by
  by_cases e : j = i
  · subst e
    rw [Fx.upd_same] at hy
    cases hy
    exact hx
  · rw [upd_ne e] at hy
    exact hs j y _ _ hb (h.has j y hy)⟩
end
/-- Three lists. -/
abbrev Pick3 := Pick × Pick × Pick
end Go.Proofs.Ytnepjgnnppfibaa

end

section
/- The law's copy of a right map. -/
namespace Go.Proofs.Ytnepjgnnppfibaa
open Go Go.RowKit

/-- The same numbers, elsewhere. -/
structure LikeM (m x : Rm) : Prop where
  n : x.n = m.n
  h : x.h = m.h
  q : x.q = m.q
  u : x.u = m.u
theorem LikeM.sums {m x : Rm} (h : LikeM m x) (k : Nat) : x.sw k = m.sw k ∧ x.sq k = m.sq k ∧ x.sh k = m.sh k := by
  unfold Rm.sw Rm.sq Rm.sh
  rw [h.h, h.q, h.u]
  exact ⟨rfl, rfl, rfl⟩
theorem LikeM.ok {m x : Rm} (h : LikeM m x) (hm : m.Ok) : x.Ok := by
  obtain ⟨a1, a2, a3, a4, a5⟩ := hm
  exact ⟨by rw [h.n]; exact a1, by rw [h.n]; exact a2, by rw [h.n, h.h]; exact a3, by rw [h.n, h.q]; exact a4, by rw [h.n, h.u]; exact a5⟩
theorem CkOk.lay {m : Rm} {w w' : World} (h : CkOk m w) (hb : Below w.heap.size w w') : CkOk m w' := fun w2 hb2 => h w2 (hb.trans (hb2.mono hb.size))
theorem ck_of {hs qs us : List Int} (h : mapErr hs qs us = 0) {n b1 o1 c1 b2 o2 c2 b3 o3 c3 : Nat} {w : World} (r1 : Reads w w.heap.size 1 (some ⟨b1, o1, none⟩) n (hs.map (.int .i64))) (r2 : Reads w w.heap.size 1 (some ⟨b2, o2, none⟩) n (qs.map (.int .i64))) (r3 : Reads w w.heap.size 1 (some ⟨b3, o3, none⟩) n (us.map (.int .i64))) (hn : n ≤ 1000) :
    CkOk (rmL n b1 o1 c1 b2 o2 c2 b3 o3 c3 hs qs us) w := fun w' hb =>
  checkmap_is (some ⟨b1, o1, none⟩) n c1 hs (some ⟨b2, o2, none⟩) n c2 qs (some ⟨b3, o3, none⟩) n c3 us 0 h w' ((r1.below hb).more hb.size) ((r2.below hb).more hb.size) ((r3.below hb).more hb.size) (by omega) (by omega) (by omega)
/-- What is known of a map that is a copy of a right one. -/
structure CopyM (m x : Rm) (w : World) : Prop where
  like : LikeM m x
  at_ : RmAt x w
  ck : CkOk x w
theorem CopyM.lay {m x : Rm} {w w' : World} (h : CopyM m x w) (hb : Below w.heap.size w w') : CopyM m x w' := ⟨h.like, h.at_.lay hb, h.ck.lay hb⟩
theorem mapped_ok {hs qs us : List Int} (h : mapErr hs qs us = 0) (n c1 c2 c3 : Nat) (A1 A2 A3 : Option Addr) (m : Rm) (hm : ∃ b1 o1 c1 b2 o2 c2 b3 o3 c3, m = rmL n b1 o1 c1 b2 o2 c2 b3 o3 c3 hs qs us) (hn : n ≤ 1000) (w : World)
    (r1 : Reads w w.heap.size 1 A1 n (hs.map (.int .i64))) (r2 : Reads w w.heap.size 1 A2 n (qs.map (.int .i64))) (r3 : Reads w w.heap.size 1 A3 n (us.map (.int .i64))) :
    Calls Try.prog 21 #[.agg #[.slice A1 n c1, .slice A2 n c2, .slice A3 n c3]] w fun e w' => ∃ x : Rm, e = .returned x.val ∧ Below w.heap.size w w' ∧ CopyM m x w' := by
  obtain ⟨_, _, _, _, _, _, _, _, _, rfl⟩ := hm
  refine (mapped_any A1 A2 A3 n c1 n c2 n c3 hs qs us w r1 r2 r3 hn hn hn).mono ?_
  rintro e w' ⟨B1, d1, B2, d2, B3, d3, rfl, hb, g1, g2, g3⟩
  obtain ⟨-, -, b1, o1, b2, o2, b3, o3, rfl, rfl, rfl, k1, k2, k3⟩ := rm_of h d1 d2 d3 g1 g2 g3
  exact ⟨rmL n b1 o1 d1 b2 o2 d2 b3 o3 d3 hs qs us, rfl, hb, ⟨rfl, rfl, rfl, rfl⟩, k1, ck_of h g1 g2 g3 hn⟩
end Go.Proofs.Ytnepjgnnppfibaa

end
