import Derived.Deep.CutBlock
import Derived.Test.YtkfecbkcghmmhaaQ23
import Derived.Laws.CopyOwn

section
/- Readings that a profile keeps do not clash. -/
namespace Go.Proofs.Ytkfecbkcghmmhaa
open Go Go.RowKit

theorem made_quads (m : Nat) : madeCells #[.int .i64 0, .int .i64 0, .int .i64 0, .int .i64 0] (m * 4) = (cells4 (List.replicate m (0, 0, 0, 0))).toArray := by
  apply Array.ext
  · rw [size_madeCells]; simp [cells4_len]
  · intro i h1 h2
    rw [size_madeCells] at h1
    have e2 : (cells4 (List.replicate m (0, 0, 0, 0)))[i]? = some (.int .i64 0) := by
      have hk : i / 4 < m := by omega
      obtain ⟨c0, c1, c2, c3⟩ := cells4_get (List.replicate m (0, 0, 0, 0)) (i / 4) (0, 0, 0, 0) (by simp [hk])
      rcases (show i = i / 4 * 4 ∨ i = i / 4 * 4 + 1 ∨ i = i / 4 * 4 + 2 ∨ i = i / 4 * 4 + 3 by omega) with e | e | e | e <;> rw [e] <;> assumption
    have e1 : (madeCells #[.int .i64 0, .int .i64 0, .int .i64 0, .int .i64 0] (m * 4))[i]'(by rw [size_madeCells]; exact h1) = .int .i64 0 := by
      unfold madeCells
      simp only [Array.getElem_map, Array.getElem_range]
      have h4 : i % 4 < 4 := Nat.mod_lt _ (by omega)
      rcases (show i % 4 = 0 ∨ i % 4 = 1 ∨ i % 4 = 2 ∨ i % 4 = 3 by omega) with e | e | e | e <;> simp [e]
    rw [e1]
    have := (List.getElem?_eq_some_iff.1 e2).2
    simpa using this.symm
/-- The heights and the arcs that changed them. -/
def ClAt (gp gm n : Nat) (H : Nat → Int) (w : World) : Prop := RB w gp 3 n (fun v => .int .i64 (H v)) ∧ ∃ qs : List Quad, qs.length = n ∧ Blk w gm 84 (cells4 qs).toArray
section
variable {gp gm n : Nat} {H : Nat → Int} {w w' : World}
theorem ClAt.below (h : ClAt gp gm n H w) (hb : Below w.heap.size w w') : ClAt gp gm n H w' := by
  obtain ⟨h1, qs, h2, h3⟩ := h
  exact ⟨h1.lay hb, qs, h2, Blk.below h3 hb h3.lt⟩
end
set_option maxRecDepth 100000 in
set_option maxHeartbeats 2000000 in
theorem clash_is (A : Option Addr) (k c n : Nat) (l : List Quad) (p : Nat → Int) (hk : k ≤ 100) (hn1 : 1 ≤ n) (hn : n ≤ 40) (hl : RdOk n l) (hp : ∀ v, v < n → -1000000000 ≤ p v ∧ p v ≤ 1000000000) (hkp : KeepQ p l) (w : World) (hx : Reads w w.heap.size 4 A k (cells4 l)) :
    Calls Try.prog 15 #[.int .i64 n, .slice A k c] w fun e w' => e = .returned (.slice none 0 0) ∧ Below w.heap.size w w' := by
  have hlk := hx.len4
  have HL := Lib.hid hl
  have HKP := Lib.hid (ars_keep hkp)
  have HP := Lib.hid hp
  have hmka : ∀ w : World, (Instr.makeSlice 81 (.int .i64 (n : Int)) (.int .i64 (n : Int))).run Try.prog w = .ok (.slice (some ⟨w.heap.size, 0, none⟩) n n) (w.alloc (.cells (cells4 (List.replicate n (0, 0, 0, 0))).toArray 84)) := fun w => by
    obtain ⟨i0, hi0, hz0, hz1, hz2⟩ := info_parts info_arc
    have := run_make_rowN (P := Try.prog) 81 84 i0 _ Try.underlying81 hi0 hz0 .i64 .i64 n n (Nat.le_refl _) (by rw [hz2]; omega) (by omega) w
    rw [this, hz1]
    rw [← made_quads n]
    rfl
  have hmki : ∀ w : World, (Instr.makeSlice 22 (.int .i64 (n : Int)) (.int .i64 (n : Int))).run Try.prog w = .ok (.slice (some ⟨w.heap.size, 0, none⟩) n n) (w.alloc (.cells ((List.range n).map fun _ => Value.int .i64 0).toArray 3)) := fun w => by
    obtain ⟨i0, hi0, hz0, hz1, hz2⟩ := info_parts info_int
    have := run_make_rowN (P := Try.prog) 22 3 i0 _ Try.underlying22 hi0 hz0 .i64 .i64 n n (Nat.le_refl _) (by rw [hz2]; omega) (by omega) w
    rw [this, hz1, Nat.mul_one]
    rw [show (Value.int .i64 0).cells = #[.int .i64 0] from rfl, made_one]
  go_enter Try.func15, Try.ntmps15
  go_wp2_with fail
  refine (arcs_is A k c n l hk hn HL.out _ hx).mono ?_
  rintro e w1 ⟨A1, c1, rfl, hb1, hr1, -⟩
  have HB1 := Lib.hid hb1
  have HR1 := Lib.hid hr1
  have hs1 := hb1.size
  clear hx hb1 hr1
  go_upto_region 2 with fail
  go_cut [6, 7] from 16 to 20 (fun a b wx => ∃ gp gm, a = .slice (some ⟨gp, 0, none⟩) n n ∧ b = .slice (some ⟨gm, 0, none⟩) n n ∧ gp ≠ gm ∧ w1.heap.size ≤ gp ∧ w1.heap.size ≤ gm ∧ Below w1.heap.size w1 wx ∧ ClAt gp gm n (fun _ => 0) wx)
  case first =>
    go_region
    · go_wp2_with fail
      go_meet
      exact ⟨_, _, rfl, rfl, by omega, by omega, by omega, by repeat' (first | exact Below.refl _ _ | refine below_drewN ?_ _ | refine Below.drew ?_ | refine Below.alloc ?_ (by first | omega | (simp; done) | (simp; omega) | (simp [World.setCell]; omega)) _ | refine Below.setCell ?_ (by first | omega | (simp; done) | (simp; omega)) _), ((Blk.at_ _ rfl _ _).alloc _).drew, List.replicate n (0, 0, 0, 0), by simp, (Blk.at_ _ (by simp) _ _).drew⟩
    · go_wp2_with fail
      go_meet
      exact ⟨_, _, rfl, rfl, by omega, by omega, by omega, by repeat' (first | exact Below.refl _ _ | refine below_drewN ?_ _ | refine Below.drew ?_ | refine Below.alloc ?_ (by first | omega | (simp; done) | (simp; omega) | (simp [World.setCell]; omega)) _ | refine Below.setCell ?_ (by first | omega | (simp; done) | (simp; omega)) _), (Blk.at_ _ (by simp) _ _).drew, List.replicate n (0, 0, 0, 0), by simp, ((Blk.at_ _ rfl _ _).alloc _).drew⟩
  case rest =>
  obtain ⟨gp, gm, rfl, rfl, hne, hgp, hgm, hb2, hc2⟩ := hcut
  obtain ⟨w2, hnm⟩ : ∃ z : World, z = wc := ⟨_, rfl⟩
  subst hnm
  have HB2 := Lib.hid hb2
  have HC2 := Lib.hid hc2
  have hlk2 : (arsOf l).length = 2 * k := by unfold arsOf; rw [List.length_map, arcsK_len (Nat.le_refl _), hlk]
  have hgp2 := hc2.1.lt
  have hgm2 : gm < w2.heap.size := by obtain ⟨-, qs, -, h⟩ := hc2; exact h.lt
  have e0 : IntKind.i64.wrap ((n : Int) + 1) = ((n + 1 : Nat) : Int) := by rw [IntWalk.i64_in ((n : Int) + 1) ⟨by omega, by omega⟩]; omega
  clear hb2 hc2
  go_wp2
  go_loopw [22] (fun i wr => ∃ (r : Nat) (H : Nat → Int), r + 1 ≤ n ∧ i = .int .i64 r ∧ Bf n p (arsOf l) (r + 1) 0 H false ∧ LowB n p H ∧ Below w1.heap.size w1 wr ∧ w2.heap.size ≤ wr.heap.size ∧ ClAt gp gm n H wr) (fun i _ => n - (intOf i).toNat)
  case atStart => exact ⟨0, _, by omega, rfl, bf_start, low_start, HB2.out, Nat.le_refl _, HC2.out⟩
  case round =>
    obtain ⟨r, H, hrn, rfl, hbf, hlow, hb3, hs3, hc3⟩ := hrel
    obtain ⟨w3, hnm⟩ : ∃ z : World, z = wr := ⟨_, rfl⟩
    subst hnm
    have HB3 := Lib.hid hb3
    have HC3 := Lib.hid hc3
    have HBF := Lib.hid hbf
    have HLOW := Lib.hid hlow
    have hrr : (r : Int) < ((n + 1 : Nat) : Int) := by omega
    clear hbf hlow hb3 hc3
    go_wp2
    go_loopw [8, 26] (fun a i wr => ∃ (j : Nat) (H : Nat → Int) (z : Int), j ≤ 2 * k ∧ a = .int .i64 z ∧ i = .int .i64 j ∧ Bf n p (arsOf l) (r + 1) j H (decide (0 ≤ z)) ∧ LowB n p H ∧ Below w1.heap.size w1 wr ∧ w2.heap.size ≤ wr.heap.size ∧ ClAt gp gm n H wr) (fun _ i _ => 2 * k - (intOf i).toNat)
    case atStart => exact ⟨0, H, -1, by omega, rfl, rfl, HBF.out, HLOW.out, HB3.out, hs3, HC3.out⟩
    case round =>
      clear HB3 HC3 HBF HLOW H hs3
      obtain ⟨j, H, z, hj, rfl, rfl, hbf, hlow, hb3, hs4, hc3⟩ := hrel
      obtain ⟨w4, hnm⟩ : ∃ z : World, z = wr := ⟨_, rfl⟩
      subst hnm
      have HB4 := Lib.hid hb3
      have HC4 := Lib.hid hc3
      have HBF := Lib.hid hbf
      have HLOW := Lib.hid hlow
      clear hbf hlow hb3 hc3
      by_cases hlt : j < 2 * k
      rotate_left
      · obtain rfl : j = 2 * k := by omega
        by_cases hz : 0 ≤ z
        · have hdz : decide (z < 0) = false := by simpa using hz
          have hbf := HBF.out
          rw [show decide (0 ≤ z) = true by simpa using hz] at hbf
          rw [← hlk2] at hbf
          have he := bf_end hbf
          have HBF2 := Lib.hid (bf_round hbf)
          clear hbf
          go_wp2
          go_roundw
          case rel => exact ⟨r + 1, H, by omega, by go_num, HBF2.out, HLOW.out, HB4.out, hs4, HC4.out⟩
          case measure => simp [intOf]; omega
        · have hdz : decide (z < 0) = true := by simp; omega
          go_wp2
          go_ret
          exact ⟨rfl, HB1.out.trans (HB4.out.mono hs1)⟩
      have hjj : (j : Int) < ((2 * k : Nat) : Int) := by omega
      obtain ⟨xb, xo, ⟨a, b, len, sg⟩, hAe, hxb, hr, c0, c1, c2, c3⟩ := (HR1.out.below HB4.out).quad hlt
      simp only at c0 c1 c2 c3
      obtain ⟨q1, q2, q3, q4, q5⟩ := arc_in HL.out (List.mem_of_getElem? hr)
      simp only at q1 q2 q3 q4 q5
      obtain ⟨u, rfl⟩ : ∃ u : Nat, a = (u : Int) := ⟨a.toNat, by omega⟩
      obtain ⟨v, rfl⟩ : ∃ v : Nat, b = (v : Int) := ⟨b.toNat, by omega⟩
      have hun : u < n := by omega
      have hvn : v < n := by omega
      have HAR := Lib.hid (show (arsOf l)[j]? = some (u, v, len) by unfold arsOf; rw [List.getElem?_map, hlk, hr]; rfl)
      subst hAe
      have hb1s := HB4.out.size
      have e1 := IntWalk.i64_in ((j : Int) + 1) ⟨by omega, by omega⟩
      obtain ⟨i1, i2⟩ := low_in HLOW.out HP.out hun
      obtain ⟨i3, i4⟩ := low_in HLOW.out HP.out hvn
      obtain ⟨hu, HHU⟩ : ∃ hu, Hid (H u = hu) := ⟨_, rfl⟩
      obtain ⟨hv, HHV⟩ : ∃ hv, Hid (H v = hv) := ⟨_, rfl⟩
      rw [HHU.out] at i1 i2
      rw [HHV.out] at i3 i4
      obtain ⟨m, hm⟩ : ∃ m, hu + len = m := ⟨_, rfl⟩
      have e2 : IntKind.i64.wrap (hu + len) = m := by rw [hm]; exact IntWalk.i64_in m ⟨by omega, by omega⟩
      go_upto_region 10 with fail
      generalize hW : w4.alloc (.cells #[.int .i64 u, .int .i64 v, .int .i64 len, .int .i64 sg] 84) = w5
      have hb45 : Below w4.heap.size w4 w5 := by rw [← hW]; exact (Below.refl _ _).alloc (Nat.le_refl _) _
      have hk5 : Blk w5 w4.heap.size 84 #[.int .i64 u, .int .i64 v, .int .i64 len, .int .i64 sg] := by rw [← hW]; exact Blk.new _ _ _
      have HC5 := Lib.hid (HC4.out.below hb45)
      have HB5 := Lib.hid (HB4.out.trans (hb45.mono hb1s))
      have hs5 : w2.heap.size ≤ w5.heap.size := Nat.le_trans hs4 hb45.size
      have z0 := hk5.cell 0
      have z1 := hk5.cell 1
      have z2 := hk5.cell 2
      have z3 := hk5.cell 3
      have y0 := HC5.out.1.cell hun
      have y1 := HC5.out.1.cell hvn
      rw [HHU.out] at y0
      rw [HHV.out] at y1
      have hk5l := hk5.lt
      have HM := Lib.hid hm
      clear hW c0 c1 c2 c3 hr hm hb45
      go_quiet (fail)
      generalize hW6 : World.drewN _ _ = w6
      have hb56 : Below w5.heap.size w5 w6 := by rw [← hW6]; exact below_drewN (Below.refl _ _) _
      have hk6 : Blk w6 w4.heap.size 84 #[.int .i64 u, .int .i64 v, .int .i64 len, .int .i64 sg] := by rw [← hW6]; exact Blk.drewN hk5 _
      have HC6 := Lib.hid (HC5.out.below hb56)
      have HB6 := Lib.hid (HB5.out.trans (hb56.mono HB5.out.size))
      have hs6 : w2.heap.size ≤ w6.heap.size := Nat.le_trans hs5 hb56.size
      clear hW6 hb56 hk5 z0 z1 z2 z3 y0 y1
      have z0 := hk6.cell 0
      have z1 := hk6.cell 1
      have z2 := hk6.cell 2
      have z3 := hk6.cell 3
      have y1 := HC6.out.1.cell hvn
      rw [HHV.out] at y1
      by_cases hl : m < hv
      rotate_left
      · have hdl : decide (m < hv) = false := by simpa using hl
        have HBF2 := Lib.hid (bf_keep HBF.out HAR.out (by simp only [HHU.out, HHV.out, HM.out]; omega))
        go_wp2
        go_roundw
        case rel => exact ⟨j + 1, H, z, by omega, rfl, by go_num, HBF2.out, HLOW.out, HB6.out, hs6, HC6.out⟩
        case measure => simp [intOf]; omega
      have hdl : decide (m < hv) = true := by simpa using hl
      go_upto_region 12 with fail
      obtain ⟨hC1, qs, hql, hC2⟩ := HC6.out
      have o1 := hC1.frozen v
      have o2 := hC2.frozen (v * 4)
      have o3 := hC2.frozen (v * 4 + 1)
      have o4 := hC2.frozen (v * 4 + 2)
      have o5 := hC2.frozen (v * 4 + 3)
      obtain ⟨⟨k0, k1, k2, k3⟩, hqv⟩ : ∃ q, qs[v]? = some q := ⟨_, List.getElem?_eq_getElem (show v < qs.length by omega)⟩
      obtain ⟨x0, x1, x2, x3⟩ := cells4_get qs v _ hqv
      have p0 := hC2.cell (v * 4)
      have p1 := hC2.cell (v * 4 + 1)
      have p2 := hC2.cell (v * 4 + 2)
      have p3 := hC2.cell (v * 4 + 3)
      rw [List.getElem?_toArray, x0] at p0
      rw [List.getElem?_toArray, x1] at p1
      rw [List.getElem?_toArray, x2] at p2
      rw [List.getElem?_toArray, x3] at p3
      have HC1 := Lib.hid hC1
      have HC2q := Lib.hid hC2
      have HQL := Lib.hid hql
      clear hC1 hC2 hql x0 x1 x2 x3 hqv
      go_region
      generalize hW7 : World.drew _ = w7
      have hb7 : Below w1.heap.size w1 w7 := by rw [← hW7]; exact (((((HB6.out.setCell (p := ⟨gp, v, none⟩) hgp _).setCell (p := ⟨gm, v * 4, none⟩) hgm _).setCell (p := ⟨gm, v * 4 + 1, none⟩) hgm _).setCell (p := ⟨gm, v * 4 + 2, none⟩) hgm _).setCell (p := ⟨gm, v * 4 + 3, none⟩) hgm _).drew
      have hs7 : w2.heap.size ≤ w7.heap.size := by rw [← hW7]; simpa [World.setCell] using hs6
      have hc7 : ClAt gp gm n (relax H (u, v, len)) w7 := by
        rw [← hW7]
        refine ⟨?_, qs.set v (u, v, len, sg), by rw [List.length_set]; exact HQL.out, ?_⟩
        · refine Blk.drew (Blk.far (Blk.far (Blk.far (Blk.far (g := gp) ?_ (show gp ≠ gm from hne) _) (show gp ≠ gm from hne) _) (show gp ≠ gm from hne) _) (show gp ≠ gm from hne) _)
          refine RB.congr (RB.set_ HC1.out v _) fun i hi => ?_
          unfold relax
          simp only
          by_cases e : i = v
          · rw [if_pos e, if_pos e, HHU.out, HM.out]
          · rw [if_neg e, if_neg e]
        · have h0 : Blk (w6.setCell ⟨gp, v, none⟩ (.int .i64 m)) gm 84 (cells4 qs).toArray := Blk.far HC2q.out (fun e => hne e.symm) _
          have h1 := (((h0.set_ (v * 4) (.int .i64 u)).set_ (v * 4 + 1) (.int .i64 v)).set_ (v * 4 + 2) (.int .i64 len)).set_ (v * 4 + 3) (.int .i64 sg)
          simp only [List.setIfInBounds_toArray] at h1
          rw [cells4_set qs v (u, v, len, sg) (by rw [HQL.out]; exact hvn)] at h1
          exact h1.drew
      have HBF2 := Lib.hid (bf_relax HKP.out HBF.out HAR.out hun hvn (by simp only [HHU.out, HHV.out, HM.out]; omega))
      have HLOW2 := Lib.hid (low_relax HKP.out HLOW.out (List.mem_of_getElem? HAR.out) hun hvn (by simp only [HHU.out, HHV.out, HM.out]; omega))
      clear hW7 HC1 HC2q
      have HB7 := Lib.hid hb7
      have HC7 := Lib.hid hc7
      clear hb7 hc7
      go_wp2
      go_roundw
      case rel => exact ⟨j + 1, _, v, by omega, rfl, by go_num, by rw [show decide ((0 : Int) ≤ (v : Int)) = true by simp]; exact HBF2.out, HLOW2.out, HB7.out, hs7, HC7.out⟩
      case measure => simp [intOf]; omega
end Go.Proofs.Ytkfecbkcghmmhaa

end

section
/- slices.Repeat of a list of one number. -/
namespace Go.Proofs.Ytkfecbkcghmmhaa
open Go Go.RowKit

set_option maxRecDepth 100000 in
set_option maxHeartbeats 2000000 in
theorem mul64_is (n : Nat) (hn : n ≤ 8) (w : World) : Calls Try.prog 57 #[.int .u64 1, .int .u64 n] w fun e w' => e = .returned (.tuple #[.int .u64 0, .int .u64 n]) ∧ w = w' := by
  rcases (show n = 0 ∨ n = 1 ∨ n = 2 ∨ n = 3 ∨ n = 4 ∨ n = 5 ∨ n = 6 ∨ n = 7 ∨ n = 8 by omega) with rfl | rfl | rfl | rfl | rfl | rfl | rfl | rfl | rfl
  all_goals
    go_enter Try.func57, Try.ntmps57
    go_wp2
    go_ret2
    exact ⟨rfl, rfl⟩
set_option maxRecDepth 100000 in
set_option maxHeartbeats 2000000 in
theorem bmul_is (n : Nat) (hn : n ≤ 8) (w : World) : Calls Try.prog 48 #[.int .u64 1, .int .u64 n] w fun e w' => e = .returned (.tuple #[.int .u64 0, .int .u64 n]) ∧ w = w' := by
  go_enter Try.func48, Try.ntmps48
  go_wp2_with fail
  refine (mul64_is n hn _).mono ?_
  rintro e w1 ⟨rfl, rfl⟩
  go_wp2
  go_ret2
  exact ⟨rfl, rfl⟩
def rfill (z : Int) (n m : Nat) : List Value := (List.range n).map fun j => if j < m then .int .i64 z else .int .i64 0
theorem rfill_splice {z : Int} {n m c : Nat} (hc : m + c ≤ n) : splice (rfill z n m) m (List.replicate c (.int .i64 z)) = rfill z n (m + c) := by
  unfold splice rfill
  apply List.ext_getElem?
  intro i
  simp only [List.getElem?_append, List.length_take, List.length_map, List.length_range, List.length_replicate, List.getElem?_take, List.getElem?_map, List.getElem?_replicate, List.getElem?_drop]
  have h1 : min m n = m := by omega
  rw [h1]
  by_cases h2 : i < m
  · have hn : i < n := by omega
    simp [h2, hn]
    omega
  · rw [if_neg h2]
    by_cases h3 : i - m < c
    · have hn : i < n := by omega
      have : i < m + c := by omega
      simp [h3, hn, this]
    · have e : m + c + (i - m - c) = i := by omega
      have : ¬ i < m + c := by omega
      by_cases hin : i < n
      · simp [h3, e, this, h2, hin]
      · simp [h3, e, this, h2, hin]
theorem rfill_len (z : Int) (n m : Nat) : (rfill z n m).length = n := by unfold rfill; simp
/-- One copy. -/
theorem copy_fill {z : Int} {n m k q B g b o sc : Nat} {w0 w : World} {cap : Nat} (hB : Below B w0 w) (hg : B ≤ g) (hf : Blk w g 3 (rfill z n m).toArray) (hq : q = min k (n - m)) (hmn : m ≤ n) (hs : ∀ j, j < q → w.cell? ⟨b, o + j, none⟩ = some (.int .i64 z)) :
    ∃ w', (Builtin.copy_ #[22, 22] 3 #[.slice (some ⟨g, m, none⟩) (n - m) cap, .slice (some ⟨b, o, none⟩) k sc]).run Try.prog w = .ok (.int .i64 q) w' ∧ Below B w0 w' ∧ Blk w' g 3 (rfill z n (m + q)).toArray := by
  have hs1 : (Try.prog.info? 3).map (·.size) = some 1 := by kernel_rfl
  have hfl := rfill_len z n m
  have hcs : (List.replicate q (Value.int .i64 z)).length = Nat.min k (n - m) := by rw [List.length_replicate, hq]
  have := run_copy_row (P := Try.prog) w 22 22 3 3 g m (n - m) cap ⟨b, o, none⟩ k sc (rfill z n m).toArray 3 (List.replicate q (.int .i64 z)) Try.underlying22 hs1 hf hcs (fun j v hv => by
    have hj : j < q := by
      have := (List.getElem?_eq_some_iff.1 hv).1
      simpa using this
    obtain rfl : Value.int .i64 z = v := by rw [List.getElem?_replicate, if_pos hj] at hv; exact Option.some.inj hv
    have h2 : (⟨b, o, none⟩ : Addr).add j = ⟨b, o + j, none⟩ := by unfold Addr.add; simp
    rw [h2]
    exact hs j hj) (by simp [hfl]; try omega) (fun v hv => by
    obtain rfl := List.eq_of_mem_replicate hv
    rfl)
  have e : (rfill z n m).toArray.toList.take m ++ List.replicate q (Value.int .i64 z) ++ (rfill z n m).toArray.toList.drop (m + (List.replicate q (Value.int .i64 z)).length) = rfill z n (m + q) := by
    rw [← rfill_splice (z := z) (show m + q ≤ n by omega)]
    unfold splice
    simp
  rw [e, List.length_replicate] at this
  exact ⟨_, this, below_setRow hB hg _, setRow_heap w g (rfill z n m).toArray _ _ _ hf⟩
set_option maxRecDepth 100000 in
set_option maxHeartbeats 2000000 in
theorem repeat_is (z : Int) (n b : Nat) (hn1 : 1 ≤ n) (hn : n ≤ 8) (w : World) (hb : Blk w b 3 #[.int .i64 z]) : Calls Try.prog 33 #[.slice (some ⟨b, 0, none⟩) 1 1, .int .i64 n] w fun e w' => ∃ g, e = .returned (.slice (some ⟨g, 0, none⟩) n n) ∧ w.heap.size ≤ g ∧ Below w.heap.size w w' ∧ RB w' g 3 n (fun _ => .int .i64 z) := by
  have hmki : ∀ w : World, (Instr.makeSlice 22 (.int .i64 (n : Int)) (.int .i64 (n : Int))).run Try.prog w = .ok (.slice (some ⟨w.heap.size, 0, none⟩) n n) (w.alloc (.cells ((List.range n).map fun _ => Value.int .i64 0).toArray 3)) := fun w => by
    obtain ⟨i0, hi0, hz0, hz1, hz2⟩ := info_parts info_int
    have := run_make_rowN (P := Try.prog) 22 3 i0 _ Try.underlying22 hi0 hz0 .i64 .i64 n n (Nat.le_refl _) (by rw [hz2]; omega) (by omega) w
    rw [this, hz1, Nat.mul_one]
    rw [show (Value.int .i64 0).cells = #[.int .i64 0] from rfl, made_one]
  have e1 : IntKind.u64.wrap (n : Int) = (n : Int) := by rcases (show n = 1 ∨ n = 2 ∨ n = 3 ∨ n = 4 ∨ n = 5 ∨ n = 6 ∨ n = 7 ∨ n = 8 by omega) with rfl | rfl | rfl | rfl | rfl | rfl | rfl | rfl <;> rfl
  have HB := Lib.hid hb
  clear hb
  go_enter Try.func33, Try.ntmps33
  go_wp2_with fail
  refine (bmul_is n hn _).mono ?_
  rintro e w1 ⟨rfl, rfl⟩
  have e2 : IntKind.i64.wrap (n : Int) = (n : Int) := IntWalk.i64_in _ ⟨by omega, by omega⟩
  have e3 : decide ((9223372036854775807 : Int) < (n : Int)) = false := by simp; omega
  go_upto_region 7 with fail
  generalize hW : w.alloc _ = w1
  have hb1 : Below w.heap.size w w1 := by rw [← hW]; exact (Below.refl _ _).alloc (Nat.le_refl _) _
  have hf1 : Blk w1 w.heap.size 3 (rfill z n 0).toArray := by rw [← hW]; exact Blk.new _ _ _
  have hc1 : w1.cell? ⟨b, 0, none⟩ = some (.int .i64 z) := by rw [← hW]; exact (Blk.alloc HB.out _).cell 0
  have hs1 : (Try.prog.info? 3).map (·.size) = some 1 := by kernel_rfl
  have HF1 := Lib.hid hf1
  have HS1 := Lib.hid hs1
  have HB1 := Lib.hid hb1
  clear hW hf1 hs1
  obtain ⟨w2, hw2, hb2, hf2⟩ := copy_fill (k := 1) (q := 1) (m := 0) (b := b) (o := 0) (sc := 1) (cap := n) HB1.out (Nat.le_refl _) HF1.out (by omega) (by omega) (fun j hj => by
    obtain rfl : j = 0 := by omega
    exact hc1)
  rw [Nat.sub_zero] at hw2
  have HB2 := Lib.hid hb2
  have HF2 := Lib.hid hf2
  clear hc1 hb2 hf2 hb1
  go_wp2
  go_loopw [8] (fun i wr => ∃ m : Nat, 1 ≤ m ∧ m ≤ n ∧ i = .int .i64 m ∧ Below w.heap.size w wr ∧ Blk wr w.heap.size 3 (rfill z n m).toArray) (fun i _ => n - (intOf i).toNat)
  case atStart => exact ⟨1, by omega, by omega, rfl, HB2.out, HF2.out⟩
  case round =>
    obtain ⟨m, hm1, hmn, rfl, hb3, hf3⟩ := hrel
    obtain ⟨w3, hnm⟩ : ∃ z : World, z = wr := ⟨_, rfl⟩
    subst hnm
    clear hw2 HB1 HF1 HB2 HF2
    have HB3 := Lib.hid hb3
    have HF3 := Lib.hid hf3
    clear hb3 hf3
    by_cases hlt : m < n
    rotate_left
    · obtain rfl : n = m := by omega
      go_wp2
      go_ret
      refine ⟨_, rfl, Nat.le_refl _, HB3.out, ?_⟩
      refine RB.congr (f := fun j => if j < n then .int .i64 z else .int .i64 0) HF3.out fun j hj => ?_
      rw [if_pos hj]
    have hmm : (m : Int) < (n : Int) := by omega
    obtain ⟨q, hq⟩ : ∃ q, q = min m (n - m) := ⟨_, rfl⟩
    have hq1 : 1 ≤ q ∧ m + q ≤ n ∧ q ≤ m := by omega
    obtain ⟨w4, hw4, hb4, hf4⟩ := copy_fill (k := m) (q := q) (m := m) (b := w.heap.size) (o := 0) (sc := n) (cap := n - m) (HB3.out.drew) (Nat.le_refl _) HF3.out.drew hq (by omega) (fun j hj => by
      rw [HF3.out.drew.cell (0 + j), Nat.zero_add]
      unfold rfill
      have h3 : j < n := by omega
      have h4 : j < m := by omega
      simp [h3, h4])
    have HB4 := Lib.hid hb4
    have HF4 := Lib.hid hf4
    have e4 := IntWalk.i64_in ((m : Int) + (q : Int)) ⟨by omega, by omega⟩
    clear hb4 hf4 hq
    go_upto_region 9 with fail
    go_region
    go_wp2
    go_roundw
    case rel => exact ⟨m + q, by omega, by omega, by go_num, HB4.out, HF4.out⟩
    case measure => simp [intOf]; omega
end Go.Proofs.Ytkfecbkcghmmhaa

end

section
/- Plain law of readings: how large the entries of the table grow with at most 8 zones. -/
namespace Go.Proofs.Ytkfecbkcghmmhaa

theorem TabOk.more {p : Nat → Int} {B C : Int} {T : Nat → Nat → Int} (h : TabOk p B T) (hc : B ≤ C) : TabOk p C T := ⟨h.diag, fun i j => (h.ent i j).imp id fun e => ⟨e.1, by omega⟩⟩
theorem stg_in {p : Nat → Int} {ars : List Arc} (hk : KeepsA p ars) (hl : ∀ a ∈ ars, a.2.2 ≤ 1000000 ∧ a.1 ≠ a.2.1) {k : Nat} (h8 : k ≤ 8) : TabOk p 256000000 (stgs (arcsT ars) k) := by
  have h0 : TabOk p 1000000 (arcsT ars) := arcs_ok (by omega) (by unfold farT; omega) hk hl _ (tab0_ok (by omega))
  have hp : (2 : Int) ^ k ≤ 256 := by
    rcases (show k = 0 ∨ k = 1 ∨ k = 2 ∨ k = 3 ∨ k = 4 ∨ k = 5 ∨ k = 6 ∨ k = 7 ∨ k = 8 by omega) with rfl | rfl | rfl | rfl | rfl | rfl | rfl | rfl | rfl <;> decide
  exact (stgs_ok h0 (by omega) k (by unfold farT; omega)).more (by omega)
theorem ars_in {n : Nat} {l : List Quad} (h : RdOk n l) : ∀ a ∈ arsOf l, a.2.2 ≤ 1000000 ∧ a.1 ≠ a.2.1 := by
  intro a ha
  obtain ⟨q, hq, rfl⟩ := List.mem_map.1 ha
  obtain ⟨h1, h2, h3, h4, h5⟩ := arc_in h hq
  refine ⟨h5, fun e => h3 ?_⟩
  have e2 : q.1.toNat = q.2.1.toNat := e
  omega
theorem stg_here {S : Nat → Nat → Int} {k i j : Nat} (h1 : ¬ (S i k < farT ∧ S k j < farT)) : stgT S k i j = S i j := by unfold stgT; rw [if_neg h1]
theorem stg_set {S : Nat → Nat → Int} {k i j : Nat} {x y z m s : Int} (hx : S i k = x) (hy : S k j = y) (hz : S i j = z) (h1 : x < farT) (h2 : y < farT) (hs : x + y = s) (hm : mnT z s = m) : stgT S k i j = m := by unfold stgT; rw [hx, hy, hz, if_pos ⟨h1, h2⟩, hs, hm]
end Go.Proofs.Ytkfecbkcghmmhaa

end
