import Derived.Test.YtkfecbkcghmmhaaQ24
import Derived.BigRegion
import Derived.Test.YtkfecbkcghmmhaaQ4
import Derived.Deep.CutBlock
import Derived.Test.YtkfecbkcghmmhaaQ9

section
/- The table of least lengths. -/
namespace Go.Proofs.Ytkfecbkcghmmhaa
open Go Go.RowKit

/-- A table of n rows in memory. -/
structure TabAt (cb : Nat) (d : Nat → Nat) (n : Nat) (T : Nat → Nat → Int) (w : World) : Prop where
  col : RB w cb 22 n (fun j => .slice (some ⟨d j, 0, none⟩) n n)
  row : ∀ i, i < n → RB w (d i) 3 n (fun j => .int .i64 (T i j))
  ne : ∀ i, i < n → d i ≠ cb
  inj : ∀ i j, i < n → j < n → d i = d j → i = j
section
variable {cb n : Nat} {d : Nat → Nat} {T T' : Nat → Nat → Int} {w w' : World}
theorem TabAt.lay (h : TabAt cb d n T w) (hb : Below w.heap.size w w') : TabAt cb d n T w' := ⟨h.col.lay hb, fun i hi => (h.row i hi).lay hb, h.ne, h.inj⟩
theorem TabAt.congr (h : TabAt cb d n T w) (he : ∀ i j, i < n → j < n → T i j = T' i j) : TabAt cb d n T' w := ⟨h.col, fun i hi => (h.row i hi).congr fun j hj => by rw [he i j hi hj], h.ne, h.inj⟩
theorem TabAt.drew (h : TabAt cb d n T w) : TabAt cb d n T w.drew := ⟨Blk.drew h.col, fun i hi => Blk.drew (h.row i hi), h.ne, h.inj⟩
theorem TabAt.set_ (h : TabAt cb d n T w) {i j : Nat} (hi : i < n) (z : Int) : TabAt cb d n (fun a b => if a = i ∧ b = j then z else T a b) (w.setCell ⟨d i, j, none⟩ (.int .i64 z)) := by
  refine ⟨Blk.far h.col (fun e => h.ne i hi e.symm) _, fun a ha => ?_, h.ne, h.inj⟩
  by_cases e : a = i
  · subst e
    refine (RB.set_ (h.row a ha) j _).congr fun b hb => ?_
    by_cases e2 : b = j
    · simp [e2]
    · simp [e2]
  · refine RB.congr (Blk.far (h.row a ha) (fun e2 => e (h.inj _ _ ha hi e2)) _) fun b hb => ?_
    simp [e]
theorem TabAt.cell (h : TabAt cb d n T w) {i j : Nat} (hi : i < n) (hj : j < n) : w.cell? ⟨d i, j, none⟩ = some (.int .i64 (T i j)) := (h.row i hi).cell hj
theorem TabAt.at_ (h : TabAt cb d n T w) {i : Nat} (hi : i < n) : w.cell? ⟨cb, i, none⟩ = some (.slice (some ⟨d i, 0, none⟩) n n) := h.col.cell hi
end
/-- The table's rows so far. -/
def tcolV (d : Nat → Nat) (n i : Nat) (j : Nat) : Value := if j < i then .slice (some ⟨d j, 0, none⟩) n n else .slice none 0 0
set_option maxRecDepth 100000 in
set_option maxHeartbeats 4000000 in
theorem tableof_is (A : Option Addr) (k c n : Nat) (l : List Quad) (p : Nat → Int) (hk : k ≤ 100) (hn1 : 1 ≤ n) (hn : n ≤ 8) (hl : RdOk n l) (hp : ∀ v, v < n → -1000000000 ≤ p v ∧ p v ≤ 1000000000) (hkp : KeepQ p l) (w : World) (hx : Reads w w.heap.size 4 A k (cells4 l)) :
    Calls Try.prog 16 #[.int .i64 n, .slice A k c] w fun e w' => ∃ cb d, e = .returned (.slice (some ⟨cb, 0, none⟩) n n) ∧ Below w.heap.size w w' ∧ TabAt cb d n (tabT n (arsOf l)) w' := by
  have hlk := hx.len4
  have HX := Lib.hid hx
  have HL := Lib.hid hl
  have HP := Lib.hid hp
  have hmkt : ∀ w : World, (Instr.makeSlice 62 (.int .i64 (n : Int)) (.int .i64 (n : Int))).run Try.prog w = .ok (.slice (some ⟨w.heap.size, 0, none⟩) n n) (w.alloc (.cells ((List.range n).map fun _ => Value.slice none 0 0).toArray 22)) := fun w => by
    obtain ⟨i0, hi0, hz0, hz1, hz2⟩ := info_parts info_ints
    have := run_make_rowN (P := Try.prog) 62 22 i0 _ Try.underlying62 hi0 hz0 .i64 .i64 n n (Nat.le_refl _) (by rw [hz2]; omega) (by omega) w
    rw [this, hz1, Nat.mul_one]
    rw [show (Value.slice none 0 0).cells = #[.slice none 0 0] from rfl, made_one]
  clear hx hl hp
  go_enter Try.func16, Try.ntmps16
  go_wp2_with fail
  generalize hW : w.alloc _ = w1
  have hcol : RB w1 w.heap.size 22 n (tcolV (fun _ => 0) n 0) := by
    rw [← hW]
    exact RB.congr (Blk.new _ _ _ : RB _ _ _ n (fun _ => .slice none 0 0)) fun j hj => by unfold tcolV; rw [if_neg (by omega)]
  have hb1 : Below w.heap.size w w1 := by rw [← hW]; exact (Below.refl _ _).alloc (Nat.le_refl _) _
  have hs1 : w1.heap.size = w.heap.size + 1 := by rw [← hW]; simp
  have HB1 := Lib.hid hb1
  have HCOL := Lib.hid hcol
  clear hW hcol hb1
  go_loopw [16] (fun i wr => ∃ (k : Nat) (d : Nat → Nat), k ≤ n ∧ i = .int .i64 k ∧ Below w.heap.size w wr ∧ w1.heap.size ≤ wr.heap.size ∧ RB wr w.heap.size 22 n (tcolV d n k) ∧ (∀ j, j < k → w1.heap.size ≤ d j ∧ RB wr (d j) 3 n (fun q => .int .i64 (tab0 j q))) ∧ (∀ a b, a < k → b < k → d a = d b → a = b)) (fun i _ => n - (intOf i).toNat)
  case atStart => exact ⟨0, _, by omega, rfl, HB1.out, Nat.le_refl _, HCOL.out, fun j hj => absurd hj (by omega), fun a b ha => absurd ha (by omega)⟩
  case round =>
    clear HB1 HCOL
    obtain ⟨i, d, hi, rfl, hb3, hs3, hc3, hr3, hj3⟩ := hrel
    obtain ⟨w3, hnm⟩ : ∃ z : World, z = wr := ⟨_, rfl⟩
    subst hnm
    have HB3 := Lib.hid hb3
    have HC3 := Lib.hid hc3
    have HR3 := Lib.hid hr3
    have HJ3 := Lib.hid hj3
    clear hb3 hc3 hr3 hj3
    by_cases hlt : i < n
    rotate_left
    · obtain rfl : n = i := by omega
      have ht3 : TabAt w.heap.size d n tab0 w3 := ⟨HC3.out.congr fun j hj => by unfold tcolV; rw [if_pos hj], fun j hj => (HR3.out j hj).2, fun j hj => by have := (HR3.out j hj).1; omega, HJ3.out⟩
      have HT3 := Lib.hid ht3
      have HD := Lib.hid (show ∀ j, j < n → w.heap.size < d j ∧ d j < w3.heap.size from fun j hj => ⟨by have := (HR3.out j hj).1; omega, (HR3.out j hj).2.lt⟩)
      have hcl := HC3.out.lt
      clear ht3 HC3 HR3 HJ3 hmkt
      go_wp2_with fail
      refine (arcs_is A k c n l hk (by omega) HL.out _ ((HX.out.below HB3.out).more HB3.out.size)).mono ?_
      rintro e w4 ⟨A4, c4, rfl, hb4, hr4, ha4⟩
      have HB34 := Lib.hid hb4
      have HR4 := Lib.hid hr4
      have HA4 := Lib.hid ha4
      have hs34 := hb4.size
      have HT4 := Lib.hid (HT3.out.lay hb4)
      have HB4 := Lib.hid (HB3.out.trans (hb4.mono HB3.out.size))
      clear hb4 hr4 ha4 HT3 HB3
      go_wp2
      go_loopw [35] (fun i wr => ∃ j : Nat, j ≤ 2 * k ∧ i = .int .i64 j ∧ Tch (fun q => ∃ i, i < n ∧ d i = q) w4 wr ∧ TabAt w.heap.size d n (((arsOf l).take j).foldl putT tab0) wr) (fun i _ => 2 * k - (intOf i).toNat)
      case atStart => exact ⟨0, by omega, rfl, Tch.refl _ _, HT4.out⟩
      case round =>
        clear HT4
        obtain ⟨j, hj, rfl, ht5, ht6⟩ := hrel
        obtain ⟨w5, hnm⟩ : ∃ z : World, z = wr := ⟨_, rfl⟩
        subst hnm
        have HC5 := Lib.hid ht5
        have HT5 := Lib.hid ht6
        have hs45 := ht5.size
        clear ht5 ht6
        by_cases hlt : j < 2 * k
        rotate_left
        · obtain rfl : j = 2 * k := by omega
          have hall : (arsOf l).take (2 * k) = arsOf l := List.take_of_length_le (by unfold arsOf; rw [List.length_map, arcsK_len (Nat.le_refl _), hlk]; omega)
          have ht5 := HT5.out
          rw [hall] at ht5
          have HT5b := Lib.hid (show TabAt w.heap.size d n (arcsT (arsOf l)) w5 from ht5)
          have HB5 := Lib.hid (HB4.out.trans (HC5.out.below (B := w.heap.size) (fun q hq => by obtain ⟨i, hi, rfl⟩ := hq; have := (HD.out i hi).1; omega) HB4.out.size))
          have HOK := Lib.hid (fun k (h8 : k ≤ 8) => stg_in (ars_keep hkp) (ars_in HL.out) h8)
          obtain ⟨T0, hT0⟩ : ∃ T0, arcsT (arsOf l) = T0 := ⟨_, rfl⟩
          have HE0 := Lib.hid hT0
          rw [hT0] at HT5b HOK
          have hcl5 : w.heap.size < w5.heap.size := ht5.col.lt
          clear ht5 hT0 hall HT5 HC5 HR4 HA4 HB34 HB4
          go_wp2
          go_loopw [62] (fun i wr => ∃ kk : Nat, kk ≤ n ∧ i = .int .i64 kk ∧ Below w.heap.size w wr ∧ TabAt w.heap.size d n (stgs T0 kk) wr) (fun i _ => n - (intOf i).toNat)
          case atStart => exact ⟨0, by omega, rfl, HB5.out, HT5b.out⟩
          case round =>
            clear HT5b HB5 hcl5
            obtain ⟨kk, hkk, rfl, hb6, ht6⟩ := hrel
            obtain ⟨w6, hnm⟩ : ∃ z : World, z = wr := ⟨_, rfl⟩
            subst hnm
            have HB6 := Lib.hid hb6
            have HT6 := Lib.hid ht6
            clear hb6 ht6
            by_cases hlt : kk < n
            rotate_left
            · obtain rfl : n = kk := by omega
              go_wp2
              go_ret
              refine ⟨_, d, rfl, HB6.out, ?_⟩
              have := HT6.out
              unfold tabT
              rw [HE0.out]
              exact this
            have hkkn : (kk : Int) < (n : Int) := by omega
            have HOKk := Lib.hid (HOK.out kk (by omega))
            have HNX := Lib.hid (show stgs T0 (kk + 1) = stgT (stgs T0 kk) kk from rfl)
            obtain ⟨S, hS⟩ : ∃ S, stgs T0 kk = S := ⟨_, rfl⟩
            rw [hS] at HT6 HOKk HNX
            clear hS
            go_wp2
            go_loopw [67] (fun i wr => ∃ i' : Nat, i' ≤ n ∧ i = .int .i64 i' ∧ Below w.heap.size w wr ∧ TabAt w.heap.size d n (midT S kk i' 0) wr) (fun i _ => n - (intOf i).toNat)
            case atStart => exact ⟨0, by omega, rfl, HB6.out, by rw [mid_start]; exact HT6.out⟩
            case round =>
              clear HT6 HB6
              obtain ⟨i, hi, rfl, hb7, ht7⟩ := hrel
              obtain ⟨w7, hnm⟩ : ∃ z : World, z = wr := ⟨_, rfl⟩
              subst hnm
              have HB7 := Lib.hid hb7
              have HT7 := Lib.hid ht7
              clear hb7 ht7
              by_cases hlt2 : i < n
              rotate_left
              · obtain rfl : n = i := by omega
                go_wp2
                go_roundw
                case rel => exact ⟨kk + 1, by omega, by go_num, HB7.out, by rw [HNX.out]; exact HT7.out.congr fun a b ha hb => mid_end _ ha⟩
                case measure => simp [intOf]; omega
              have hii : (i : Int) < (n : Int) := by omega
              go_wp2
              go_loopw [72] (fun j wr => ∃ j' : Nat, j' ≤ n ∧ j = .int .i64 j' ∧ Below w.heap.size w wr ∧ TabAt w.heap.size d n (midT S kk i j') wr) (fun i _ => n - (intOf i).toNat)
              case atStart => exact ⟨0, by omega, rfl, HB7.out, HT7.out⟩
              case round =>
                clear HT7 HB7
                obtain ⟨j, hj, rfl, hb8, ht8⟩ := hrel
                obtain ⟨w8, hnm⟩ : ∃ z : World, z = wr := ⟨_, rfl⟩
                subst hnm
                have HB8 := Lib.hid hb8
                have HT8 := Lib.hid ht8
                clear hb8 ht8
                by_cases hlt3 : j < n
                rotate_left
                · obtain rfl : n = j := by omega
                  go_wp2
                  go_roundw
                  case rel => exact ⟨i + 1, by omega, by go_num, HB8.out, HT8.out.congr fun a b ha hb => mid_row _ hb⟩
                  case measure => simp [intOf]; omega
                have hjj : (j : Int) < (n : Int) := by omega
                have ed := HOKk.out.diag kk
                obtain ⟨x, hx⟩ : ∃ x, S i kk = x := ⟨_, rfl⟩
                obtain ⟨y, hy⟩ : ∃ y, S kk j = y := ⟨_, rfl⟩
                obtain ⟨z, hz⟩ : ∃ z, S i j = z := ⟨_, rfl⟩
                have y0 := HT8.out.at_ hlt2
                have y1 := HT8.out.at_ hlt
                have y2 := HT8.out.cell hlt2 hlt
                have y3 := HT8.out.cell hlt hlt3
                have y4 := HT8.out.cell hlt2 hlt3
                have y5 := (HT8.out.row i hlt2).frozen j
                rw [mid_col ed, hx] at y2
                rw [mid_rowk ed, hy] at y3
                rw [mid_here, hz] at y4
                have o1 := HOKk.out.ent i kk
                have o2 := HOKk.out.ent kk j
                rw [hx] at o1
                rw [hy] at o2
                have a1 := HP.out i hlt2
                have a2 := HP.out j hlt3
                have a3 := HP.out kk hlt
                have HXX := Lib.hid hx
                have HYY := Lib.hid hy
                have HZZ := Lib.hid hz
                clear hx hy hz ed
                by_cases hxf : x < farT
                rotate_left
                · have d1 : decide (x < 1099511627776) = false := by unfold farT at hxf; simpa using hxf
                  go_wp2
                  go_roundw
                  case rel => exact ⟨j + 1, by omega, by go_num, HB8.out, HT8.out.congr fun a b ha hb => by
                    rw [mid_step]
                    by_cases e : a = i ∧ b = j
                    · rw [if_pos e, e.1, e.2, mid_here, stg_here (by rw [HXX.out]; exact fun h => hxf h.1)]
                    · rw [if_neg e]⟩
                  case measure => simp [intOf]; omega
                have d1 : decide (x < 1099511627776) = true := by unfold farT at hxf; simpa using hxf
                by_cases hyf : y < farT
                rotate_left
                · have d2 : decide (y < 1099511627776) = false := by unfold farT at hyf; simpa using hyf
                  go_wp2
                  go_roundw
                  case rel => exact ⟨j + 1, by omega, by go_num, HB8.out, HT8.out.congr fun a b ha hb => by
                    rw [mid_step]
                    by_cases e : a = i ∧ b = j
                    · rw [if_pos e, e.1, e.2, mid_here, stg_here (by rw [HYY.out]; exact fun h => hyf h.2)]
                    · rw [if_neg e]⟩
                  case measure => simp [intOf]; omega
                have d2 : decide (y < 1099511627776) = true := by unfold farT at hyf; simpa using hyf
                have hb1 : -10000000000 ≤ x ∧ x ≤ 10000000000 := by omega
                have hb2 : -10000000000 ≤ y ∧ y ≤ 10000000000 := by omega
                obtain ⟨s, hs⟩ : ∃ s, x + y = s := ⟨_, rfl⟩
                have e4 : IntKind.i64.wrap (x + y) = s := by rw [hs]; exact IntWalk.i64_in s ⟨by omega, by omega⟩
                obtain ⟨m, hm⟩ : ∃ m, mnT z s = m := ⟨_, rfl⟩
                have hmm : (if s < z then s else z) = m := by rw [← hm]; rfl
                have HSS := Lib.hid hs
                have HMM := Lib.hid hm
                clear hs hm hb1 hb2 o1 o2 a1 a2 a3
                go_upto_region 23 with fail
                go_region
                generalize hW : World.drew _ = w9
                have hb9 : Below w.heap.size w w9 := by rw [← hW]; exact (HB8.out.setCell (p := ⟨d i, j, none⟩) (show w.heap.size ≤ d i by have := (HD.out i hlt2).1; omega) _).drew
                have ht9 : TabAt w.heap.size d n (midT S kk i (j + 1)) w9 := by
                  rw [← hW]
                  refine (TabAt.drew (HT8.out.set_ hlt2 m)).congr fun a b ha hb => ?_
                  rw [mid_step]
                  by_cases e : a = i ∧ b = j
                  · rw [if_pos e, if_pos e]
                    exact (stg_set HXX.out HYY.out HZZ.out hxf hyf HSS.out HMM.out).symm
                  · rw [if_neg e, if_neg e]
                have HB9 := Lib.hid hb9
                have HT9 := Lib.hid ht9
                clear hW hb9 ht9 HT8 HB8 y0 y1 y2 y3 y4 y5
                go_wp2
                go_roundw
                case rel => exact ⟨j + 1, by omega, by go_num, HB9.out, HT9.out⟩
                case measure => simp [intOf]; omega
        have hjj : (j : Int) < ((2 * k : Nat) : Int) := by omega
        obtain ⟨xb, xo, ⟨a, b, len, sg⟩, hAe, hxb, hr, c0, c1, c2, c3⟩ := HR4.out.quad hlt
        have hxn := HA4.out _ _ hAe
        have hxX : ¬ ∃ i, i < n ∧ d i = xb := by rintro ⟨i, hi, rfl⟩; have := (HD.out i hi).2; omega
        have c0 := (HC5.out.cell (p := ⟨xb, xo + j * 4, none⟩) hxb hxX).trans c0
        have c1 := (HC5.out.cell (p := ⟨xb, xo + j * 4 + 1, none⟩) hxb hxX).trans c1
        have c2 := (HC5.out.cell (p := ⟨xb, xo + j * 4 + 2, none⟩) hxb hxX).trans c2
        have c3 := (HC5.out.cell (p := ⟨xb, xo + j * 4 + 3, none⟩) hxb hxX).trans c3
        simp only at c0 c1 c2 c3
        obtain ⟨q1, q2, q3, q4, q5⟩ := arc_in HL.out (List.mem_of_getElem? hr)
        simp only at q1 q2 q3 q4 q5
        obtain ⟨u, rfl⟩ : ∃ u : Nat, a = (u : Int) := ⟨a.toNat, by omega⟩
        obtain ⟨v, rfl⟩ : ∃ v : Nat, b = (v : Int) := ⟨b.toNat, by omega⟩
        have hun : u < n := by omega
        have hvn : v < n := by omega
        have HAR := Lib.hid (show (arsOf l)[j]? = some (u, v, len) by unfold arsOf; rw [List.getElem?_map, hlk, hr]; rfl)
        subst hAe
        have e1 := IntWalk.i64_in ((j : Int) + 1) ⟨by omega, by omega⟩
        obtain ⟨T5, hT5⟩ : ∃ T5, ((arsOf l).take j).foldl putT tab0 = T5 := ⟨_, rfl⟩
        have HTE := Lib.hid hT5
        have ht5 := HT5.out
        rw [hT5] at ht5
        obtain ⟨x, hx⟩ : ∃ x, T5 u v = x := ⟨_, rfl⟩
        obtain ⟨m, hm⟩ : ∃ m, mnT x len = m := ⟨_, rfl⟩
        have hmm : (if len < x then len else x) = m := by rw [← hm]; rfl
        go_upto_region 11 with fail
        generalize hW : w5.alloc (.cells #[.int .i64 u, .int .i64 v, .int .i64 len, .int .i64 sg] 84) = w6
        have hb56 : Below w5.heap.size w5 w6 := by rw [← hW]; exact (Below.refl _ _).alloc (Nat.le_refl _) _
        have hk6 : Blk w6 w5.heap.size 84 #[.int .i64 u, .int .i64 v, .int .i64 len, .int .i64 sg] := by rw [← hW]; exact Blk.new _ _ _
        have HC6 := Lib.hid (HC5.out.call hb56)
        have HT6 := Lib.hid (ht5.lay hb56)
        have z0 := hk6.cell 0
        have z1 := hk6.cell 1
        have z2 := hk6.cell 2
        have z3 := hk6.cell 3
        have y0 := HT6.out.at_ hun
        have y1 := HT6.out.cell hun hvn
        have y2 := (HT6.out.row u hun).frozen v
        rw [hx] at y1
        have HXX := Lib.hid hx
        have HMM := Lib.hid hm
        clear hW c0 c1 c2 c3 hr hx hm hb56 hk6 ht5 hT5 HC5 HT5
        go_region
        generalize hW : World.drew _ = w7
        have hc7 : Tch (fun q => ∃ i, i < n ∧ d i = q) w4 w7 := by rw [← hW]; exact (HC6.out.setCell (p := ⟨d u, v, none⟩) (.inl ⟨u, hun, rfl⟩) _).drew
        have ht7 : TabAt w.heap.size d n (((arsOf l).take (j + 1)).foldl putT tab0) w7 := by
          rw [← hW]
          refine (TabAt.drew (HT6.out.set_ hun m)).congr fun a b ha hb => ?_
          rw [List.take_add_one, HAR.out, List.foldl_append, HTE.out]
          show _ = (if a = u ∧ b = v then mnT (T5 a b) len else T5 a b)
          by_cases e : a = u ∧ b = v
          · rw [if_pos e, if_pos e, e.1, e.2, HXX.out, HMM.out]
          · rw [if_neg e, if_neg e]
        have HC7 := Lib.hid hc7
        have HT7 := Lib.hid ht7
        clear hW hc7 ht7 HC6 HT6 z0 z1 z2 z3 y0 y1 y2
        go_wp2
        go_roundw
        case rel => exact ⟨j + 1, by omega, by go_num, HC7.out, HT7.out⟩
        case measure => simp [intOf]; omega
    have hii : (i : Int) < (n : Int) := by omega
    go_wp2_with fail
    generalize hW : w3.alloc _ = w4
    have hb34 : Below w3.heap.size w3 w4 := by rw [← hW]; exact (Below.refl _ _).alloc (Nat.le_refl _) _
    have hk4 : Blk w4 w3.heap.size 3 #[.int .i64 1099511627776] := by rw [← hW]; exact Blk.new _ _ _
    clear hW
    refine (repeat_is 1099511627776 n w3.heap.size hn1 hn w4 hk4).mono ?_
    rintro e w5 ⟨g, rfl, hg5, hb45, hrow5⟩
    have hs34 := hb34.size
    have hs45 := hb45.size
    have hb35 : Below w3.heap.size w3 w5 := hb34.trans (hb45.mono hs34)
    have HC5 := Lib.hid (HC3.out.lay hb35)
    have HB35 := Lib.hid hb35
    have HB5 := Lib.hid (HB3.out.trans (hb35.mono HB3.out.size))
    have HROW := Lib.hid hrow5
    have p0 := HC5.out.cell hlt
    have f0 := HC5.out.frozen i
    have hgl := hrow5.lt
    have hbl := HB3.out.size
    have y0 : (w5.setCell ⟨w.heap.size, i, none⟩ (.slice (some ⟨g, 0, none⟩) n n)).cell? ⟨g, i, none⟩ = some (.int .i64 1099511627776) := RB.cell (Blk.far hrow5 (by show g ≠ w.heap.size; omega) _) hlt
    have y1 : (w5.setCell ⟨w.heap.size, i, none⟩ (.slice (some ⟨g, 0, none⟩) n n)).frozen? ⟨g, i, none⟩ = false := Blk.frozen (Blk.far hrow5 (by show g ≠ w.heap.size; omega) _) i
    unfold tcolV at p0
    rw [if_neg (by omega)] at p0
    clear hb34 hk4 hb45 hrow5 hb35
    go_wp2
    generalize hW : World.setCell (World.setCell w5 _ _) _ _ = w6
    have hb6 : Below w.heap.size w w6 := by rw [← hW]; exact (HB5.out.setCell (p := ⟨w.heap.size, i, none⟩) (Nat.le_refl _) _).setCell (p := ⟨g, i, none⟩) (show w.heap.size ≤ g by omega) _
    have hs6 : w6.heap.size = w5.heap.size := by rw [← hW]; simp [World.setCell]
    have hc6 : RB w6 w.heap.size 22 n (tcolV (fun j => if j = i then g else d j) n (i + 1)) := by
      rw [← hW]
      refine Blk.far (RB.congr (RB.set_ HC5.out i _) fun j hj => ?_) (by show w.heap.size ≠ g; omega) _
      unfold tcolV
      dsimp only
      by_cases e : j = i
      · subst e; rw [if_pos rfl, if_pos (by omega), if_pos rfl]
      · rw [if_neg e, if_neg e]
        by_cases e2 : j < i
        · rw [if_pos e2, if_pos (by omega)]
        · rw [if_neg e2, if_neg (by omega)]
    have hr6 : ∀ j, j < i + 1 → w1.heap.size ≤ (if j = i then g else d j) ∧ RB w6 (if j = i then g else d j) 3 n (fun q => .int .i64 (tab0 j q)) := fun j hj => by
      by_cases e : j = i
      · subst e
        rw [if_pos rfl]
        refine ⟨by omega, ?_⟩
        rw [← hW]
        refine RB.congr (RB.set_ (Blk.far HROW.out (by show g ≠ w.heap.size; omega) _ : RB _ g 3 n (fun _ => .int .i64 1099511627776)) j _) fun q hq => ?_
        unfold tab0 farT
        by_cases e2 : q = j
        · rw [if_pos e2, if_pos e2.symm]
        · rw [if_neg e2, if_neg (fun e => e2 e.symm)]
      · rw [if_neg e]
        obtain ⟨h1, h2⟩ := HR3.out j (by omega)
        have hlt3 := h2.lt
        refine ⟨h1, ?_⟩
        rw [← hW]
        exact Blk.far (Blk.far (h2.lay HB35.out) (by show d j ≠ w.heap.size; omega) _) (by show d j ≠ g; omega) _
    have hj6 : ∀ a b, a < i + 1 → b < i + 1 → (if a = i then g else d a) = (if b = i then g else d b) → a = b := fun a b ha hb he => by
      by_cases ea : a = i
      · by_cases eb : b = i
        · omega
        · rw [if_pos ea, if_neg eb] at he
          have := (HR3.out b (by omega)).2.lt
          omega
      · by_cases eb : b = i
        · rw [if_neg ea, if_pos eb] at he
          have := (HR3.out a (by omega)).2.lt
          omega
        · rw [if_neg ea, if_neg eb] at he
          exact HJ3.out a b (by omega) (by omega) he
    go_roundw
    case rel => exact ⟨i + 1, _, by omega, by go_num, hb6, by omega, hc6, hr6, hj6⟩
    case measure => simp [intOf]; omega
end Go.Proofs.Ytkfecbkcghmmhaa

end

section
/- Whether a table is whole; spans; the enclosure of readings that a profile keeps. -/
namespace Go.Proofs.Ytkfecbkcghmmhaa
open Go Go.RowKit

def isfar (z : Int) : Bool := z == 1099511627776
theorem whole1_call (z : Int) (w : World) : Calls Try.prog 35 #[.int .i64 z] w fun e w' => e = .returned (.bool (isfar z)) ∧ w = w' := by
  go_enter Try.func35, Try.ntmps35
  go_wp2
  go_ret
  exact ⟨rfl, rfl⟩
theorem whole1_asks : Asks 35 isfar where
  ent := enters_of Try.func35 (by kernel_rfl) rfl
  call := fun z w => whole1_call z w
def wholeT (n : Nat) (T : Nat → Nat → Int) : Bool := !(((List.range n).map (T 0)).any isfar)
theorem whole_is (cb : Nat) (d : Nat → Nat) (n : Nat) (T : Nat → Nat → Int) (t : Bool) (hn1 : 1 ≤ n) (hn : n ≤ 100) (w : World) (ht : TabAt cb d n T w) (hT : wholeT n T = t) : Calls Try.prog 17 #[.slice (some ⟨cb, 0, none⟩) n n] w fun e w' => e = .returned (.bool t) ∧ Below w.heap.size w w' := by
  have y0 := ht.at_ (i := 0) (by omega)
  have hr : Reads w w.heap.size 1 (some ⟨d 0, 0, none⟩) n (((List.range n).map (T 0)).map (.int .i64)) := by
    rw [List.map_map]
    exact (ht.row 0 (by omega)).reads
  obtain ⟨tt, htt⟩ : ∃ tt, ((List.range n).map (T 0)).any isfar = tt := ⟨_, rfl⟩
  have e : t = !tt := by rw [← hT, ← htt]; rfl
  have HR := Lib.hid hr
  have HTT := Lib.hid htt
  clear hr htt hT ht
  subst e
  have hnn : (0 : Int) < (n : Int) := by omega
  go_enter Try.func17, Try.ntmps17
  go_wp2_with fail
  refine (containsfunc_any _ _ whole1_asks _ n n _ _ _ HR.out (Nat.le_refl _) (by omega) tt HTT.out).mono ?_
  rintro e w1 ⟨rfl, hb⟩
  have HB := Lib.hid hb
  clear hb
  go_wp2
  go_ret
  exact ⟨rfl, HB.out⟩
set_option maxRecDepth 100000 in
set_option maxHeartbeats 2000000 in
theorem span_is (cb : Nat) (d : Nat → Nat) (n i j : Nat) (T : Nat → Nat → Int) (x y : Int) (hi : i < n) (hj : j < n) (hn : n ≤ 100) (w : World) (ht : TabAt cb d n T w) (hx : T i j = x) (hy : T j i = y) (hy1 : -4611686018427387904 ≤ y ∧ y ≤ 4611686018427387904) : Calls Try.prog 18 #[.slice (some ⟨cb, 0, none⟩) n n, .int .i64 i, .int .i64 j] w fun e w' => e = .returned (.agg #[.int .i64 (-y), .int .i64 x]) ∧ Below w.heap.size w w' := by
  have e1 := IntWalk.i64_in (-y) ⟨by omega, by omega⟩
  have HT := Lib.hid ht
  have HX := Lib.hid hx
  have HY := Lib.hid hy
  clear ht hx hy
  have hii : (i : Int) < (n : Int) := by omega
  have hjj : (j : Int) < (n : Int) := by omega
  go_enter Try.func18, Try.ntmps18
  go_upto_region 1 with fail
  generalize hW : w.alloc _ = w1
  have hb1 : Below w.heap.size w w1 := by rw [← hW]; exact (Below.refl _ _).alloc (Nat.le_refl _) _
  have hk1 : Blk w1 w.heap.size 39 #[.int .i64 0, .int .i64 0] := by rw [← hW]; exact Blk.new _ _ _
  have HT1 := Lib.hid (HT.out.lay hb1)
  have HB1 := Lib.hid hb1
  have HK1 := Lib.hid hk1
  have y0 := HT1.out.at_ hi
  have y1 := HT1.out.at_ hj
  have y2 := HT1.out.cell hi hj
  have y3 := HT1.out.cell hj hi
  rw [HX.out] at y2
  rw [HY.out] at y3
  have z0 := hk1.cell 0
  have z1 := hk1.cell 1
  have o0 := hk1.frozen 0
  have o1 := hk1.frozen 1
  have hkl := hk1.lt
  clear hW hb1 hk1
  go_region
  generalize hW : World.drew _ = w2
  have hk2 : Blk w2 w.heap.size 39 #[.int .i64 (-y), .int .i64 x] := by
    rw [← hW]
    have := (HK1.out.set_ 0 (.int .i64 (-y))).set_ 1 (.int .i64 x)
    exact Blk.drew this
  have hb2 : Below w.heap.size w w2 := by rw [← hW]; exact ((HB1.out.setCell (p := ⟨w.heap.size, 0, none⟩) (Nat.le_refl _) _).setCell (p := ⟨w.heap.size, 1, none⟩) (Nat.le_refl _) _).drew
  have HB2 := Lib.hid hb2
  have HK2 := Lib.hid hk2
  have x0 := hk2.cell 0
  have x1 := hk2.cell 1
  have hkl2 := hk2.lt
  clear hW hk2 hb2 y0 y1 y2 y3 z0 z1 o0 o1 hkl HK1 HB1
  go_wp2
  exact bodyPost_ret (v := .agg #[.int .i64 (-y), .int .i64 x]) (by simp [results, Try.results18, go_sem, x0, x1, hkl2]) rfl ⟨rfl, HB2.out⟩
theorem snocrg_run (B : Nat) (v : Value) (k : Nat) (xs : List Value) (a b : Int) (w : World) (ho : w.ownsRow B 39 2 v k xs) (hB : B ≤ w.heap.size) (hk : k ≤ 100000) :
    ∃ v' W2, (Builtin.append_ #[30, 30] 30 #[v, .slice (some ⟨w.heap.size, 0, none⟩) 1 1]).run Try.prog (w.alloc (.cells #[.int .i64 a, .int .i64 b] 39)) = .ok v' W2 ∧ W2.ownsRow B 39 2 v' (k + 1) (xs ++ [.int .i64 a, .int .i64 b]) ∧ Below B w W2 := by
  obtain ⟨i0, hi0, hz0, hz1, hz2⟩ := info_parts info_range
  have hbW : Below B w (w.alloc (.cells #[.int .i64 a, .int .i64 b] 39)) := (Below.refl _ _).alloc hB _
  obtain ⟨v', W2, hrun, o2', hg2, -⟩ := run_append_any (P := Try.prog) (w.alloc (.cells #[.int .i64 a, .int .i64 b] 39)) B 30 30 39 i0 _ 2 16 Try.underlying30 hi0 hz0 hz1 hz2 rfl (by omega) v k _ (ho.alloc _) (w.alloc (.cells #[.int .i64 a, .int .i64 b] 39)).heap.size (some ⟨w.heap.size, 0, none⟩) 1 1 [.int .i64 a, .int .i64 b] (Blk.reads (Blk.new _ _ _) rfl) (by simp [Value.oneCell']) (by unfold maxLen; omega) (by first | omega | (simp; omega)) (by first | omega | (simp; omega))
  exact ⟨v', W2, hrun, o2', hbW.grown hg2 (Nat.le_trans hB hbW.size) (fun g hg => (own_lt ho hg).1)⟩
/-- The narrowest ranges. -/
def encR (T : Nat → Nat → Int) (k : Nat) : List (Int × Int) := (List.range k).map fun i => (-(T i 0), T 0 i)
theorem encR_succ (T : Nat → Nat → Int) (k : Nat) : encR T (k + 1) = encR T k ++ [(-(T k 0), T 0 k)] := by unfold encR; rw [List.range_succ, List.map_append]; rfl
theorem encR_get (T : Nat → Nat → Int) {n i : Nat} (hi : i < n) : (encR T n)[i]? = some (-(T i 0), T 0 i) := by
  unfold encR
  rw [List.getElem?_map, List.getElem?_range hi]; rfl
/-- What Enclosure returns. -/
def EncPost (n : Nat) (T : Nat → Nat → Int) (t : Bool) (w : World) (e : Ending) (w' : World) : Prop :=
  Below w.heap.size w w' ∧ match t with
    | true => ∃ A c, e = .returned (.tuple #[.slice A n c, .slice none 0 0, .int .i64 0]) ∧ Reads w' w'.heap.size 2 A n (cells2 (encR T n))
    | false => e = .returned (.tuple #[.slice none 0 0, .slice none 0 0, .int .i64 25])
theorem tab_lo {p : Nat → Int} {T : Nat → Nat → Int} (h : TabOk p 256000000 T) {n i j : Nat} (hp : ∀ v, v < n → -1000000000 ≤ p v ∧ p v ≤ 1000000000) (hi : i < n) (hj : j < n) : -4611686018427387904 ≤ T i j ∧ T i j ≤ 4611686018427387904 := by
  have := hp i hi
  have := hp j hj
  rcases h.ent i j with e | e
  · rw [e]; unfold farT; omega
  · omega
set_option maxRecDepth 100000 in
set_option maxHeartbeats 2000000 in
theorem enclosure_is (A : Option Addr) (k c n : Nat) (l : List Quad) (p : Nat → Int) (T : Nat → Nat → Int) (t : Bool) (hT : tabT n (arsOf l) = T) (ht : wholeT n T = t) (hk : k ≤ 100) (hn1 : 1 ≤ n) (hn : n ≤ 8) (hl : RdOk n l) (hp : ∀ v, v < n → -1000000000 ≤ p v ∧ p v ≤ 1000000000) (hkp : KeepQ p l) (w : World) (hx : Reads w w.heap.size 4 A k (cells4 l)) :
    Calls Try.prog 6 #[.int .i64 n, .slice A k c] w (EncPost n T t w) := by
  have HOK := Lib.hid (stg_in (ars_keep hkp) (ars_in hl) (k := n) hn)
  have hTT : stgs (arcsT (arsOf l)) n = T := hT
  rw [hTT] at HOK
  have HX := Lib.hid hx
  have HL := Lib.hid hl
  have HP := Lib.hid hp
  have HKP := Lib.hid hkp
  have HT := Lib.hid hT
  have HTT := Lib.hid ht
  clear hx hl hp hkp hT ht hTT
  go_enter Try.func6, Try.ntmps6
  go_wp2_with fail
  refine (readings_ok n ⟨by omega, by omega⟩ A k c l hk HL.out _ HX.out).mono ?_
  rintro e w1 ⟨rfl, hb1⟩
  have HX1 := Lib.hid ((HX.out.below hb1).more hb1.size)
  have HB1 := Lib.hid hb1
  clear hb1 HX
  go_wp2_with fail
  refine (clash_is A k c n l p hk hn1 (by omega) HL.out HP.out HKP.out _ HX1.out).mono ?_
  rintro e w2 ⟨rfl, hb2⟩
  have HX2 := Lib.hid ((HX1.out.below hb2).more hb2.size)
  have HB2 := Lib.hid (HB1.out.trans (hb2.mono HB1.out.size))
  clear hb2 HX1 HB1
  go_wp2_with fail
  refine (tableof_is A k c n l p hk hn1 hn HL.out HP.out HKP.out _ HX2.out).mono ?_
  rintro e w3 ⟨cb, d, rfl, hb3, ht3⟩
  rw [HT.out] at ht3
  have HB3 := Lib.hid (HB2.out.trans (hb3.mono HB2.out.size))
  have HT3 := Lib.hid ht3
  clear hb3 ht3 HX2 HB2
  go_wp2_with fail
  refine (whole_is cb d n T t hn1 (by omega) _ HT3.out HTT.out).mono ?_
  rintro e w4 ⟨rfl, hb4⟩
  have HB4 := Lib.hid (HB3.out.trans (hb4.mono HB3.out.size))
  have HT4 := Lib.hid (HT3.out.lay hb4)
  clear hb4 HT3 HB3
  cases t with
  | false =>
    go_wp2
    go_ret3
    exact ⟨HB4.out, rfl⟩
  | true =>
  go_wp2
  go_loopw [10, 32] (fun o i wr => ∃ k : Nat, k ≤ n ∧ i = .int .i64 k ∧ Below w4.heap.size w4 wr ∧ wr.ownsRow w4.heap.size 39 2 o k (cells2 (encR T k))) (fun _ i _ => n - (intOf i).toNat)
  case atStart => exact ⟨0, by omega, rfl, Below.refl _ _, World.ownsRow_nil _ _ _ _⟩
  case round =>
    obtain ⟨i, hi, rfl, hb5, ho5⟩ := hrel
    obtain ⟨w5, hnm⟩ : ∃ z : World, z = wr := ⟨_, rfl⟩
    subst hnm
    have HB5 := Lib.hid hb5
    have HO5 := Lib.hid ho5
    have hs5 := hb5.size
    clear hb5 ho5
    by_cases hlt : i < n
    rotate_left
    · obtain rfl : n = i := by omega
      obtain ⟨A', c', rfl, hr⟩ := own_reads HO5.out
      have HR := Lib.hid hr
      clear hr
      go_wp2
      go_ret3
      exact ⟨HB4.out.trans (HB5.out.mono HB4.out.size), A', c', rfl, HR.out⟩
    have hii : (i : Int) < (n : Int) := by omega
    go_wp2_with fail
    refine (span_is cb d n 0 i T _ _ (by omega) hlt (by omega) _ (HT4.out.lay HB5.out) rfl rfl (tab_lo HOK.out HP.out hlt (by omega))).mono ?_
    rintro e w6 ⟨rfl, hb6⟩
    have ho6 := own_below HO5.out hb6 (Nat.le_refl _)
    have HB6 := Lib.hid (HB5.out.trans (hb6.mono hs5))
    obtain ⟨v', W2, hrun, ho7, hb7⟩ := snocrg_run w4.heap.size _ i _ (-(T i 0)) (T 0 i) w6 ho6 HB6.out.size (by omega)
    have HRUN := Lib.hid hrun
    have HB7 := Lib.hid (HB6.out.trans hb7)
    have HO7 := Lib.hid (show W2.ownsRow w4.heap.size 39 2 v' (i + 1) (cells2 (encR T (i + 1))) by rw [encR_succ]; unfold cells2 at ho7 ⊢; rw [List.flatMap_append]; exact ho7)
    have e1 := IntWalk.i64_in ((i : Int) + 1) ⟨by omega, by omega⟩
    clear hrun ho7 hb7 ho6 hb6
    go_wp2_with (first | (at_builtin; refine wpList_app _ W2 v' rfl _ _ _ rfl _ _ rfl rfl HRUN.out ?_))
    go_roundw
    case rel => exact ⟨i + 1, by omega, by go_num, HB7.out, HO7.out⟩
    case measure => simp [intOf]; omega
end Go.Proofs.Ytkfecbkcghmmhaa

end

section
/- Heights that keep readings are accepted. -/
namespace Go.Proofs.Ytkfecbkcghmmhaa
open Go Go.RowKit

/-- The height of a zone. -/
def hgtF (hs : List Int) (v : Nat) : Int := hs.getD v 0
theorem hgtF_at {hs : List Int} {v : Nat} {z : Int} (h : hs[v]? = some z) : hgtF hs v = z := by unfold hgtF; rw [List.getD_eq_getElem?_getD, h]; rfl
end Go.Proofs.Ytkfecbkcghmmhaa

end

section
/- The known profile is enclosed; equal ranges. -/
namespace Go.Proofs.Ytkfecbkcghmmhaa
open Go Go.RowKit

@[go_sem] theorem held_range5 : Try.prog.stoodInHeld 39 = false := by kernel_rfl
@[go_sem] theorem guard_range5 : Try.prog.eqGuardType Try.prog.depth 39 = false := by kernel_rfl
theorem eq_range5 (x y : Int) (w : World) : (Op.equalIn 10000 39 (.agg #[.int .i64 x, .int .i64 y]) (.agg #[.int .i64 x, .int .i64 y])).run Try.prog w = .ok true w := by
  simp [go_sem]
@[go_sem ↓ high] theorem neq_range5 (x y : Int) (w : World) : (binOp .neq 39 (.agg #[.int .i64 x, .int .i64 y]) (.agg #[.int .i64 x, .int .i64 y])).run Try.prog w = .ok (.bool false) w := by
  rw [run_neq_struct, eq_range5]; rfl
def knownP : List Quad := [(1, 0, -7, -5)]
end Go.Proofs.Ytkfecbkcghmmhaa

end
