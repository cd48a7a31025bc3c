import Derived.Test.YtdidcpealabaiaaQ22
import Derived.Test.YtdidcpealabaiaaQ20

section
/- Contract of the reference's normal equations. -/
namespace Go.Proofs.Ytdidcpealabaiaa
open Go Go.RowKit

theorem own_of_rb {w : World} {base g n : Nat} {t : TypeId} {f : Nat → Value} (h : RB w g t n f) (hb : base ≤ g) (hn : n ≤ maxLen) : w.ownsRow base t 1 (.slice (some ⟨g, 0, none⟩) n n) n ((List.range n).map f) := by
  refine ⟨by simp, .inr ⟨g, n, _, rfl, hb, h, Nat.le_refl _, hn, by simp, ?_⟩⟩
  rw [Nat.mul_one]
  exact List.take_of_length_le (by simp)
theorem RowsOwn.tch {X : Nat → Prop} {B k : Nat} {ts : List TRow} {u : Value} {w w' : World} (h : RowsOwn B ts u k w) (ht : Tch X w w') (hX : ∀ q, B ≤ q → q < w.heap.size → ¬ X q) : RowsOwn B ts u k w' :=
  ⟨ht.own h.row fun q hq => hX q (own_lt h.row hq).1 (own_lt h.row hq).2, fun r hr => ht.own (h.each r hr) fun q hq => hX q (own_lt (h.each r hr) hq).1 (own_lt (h.each r hr) hq).2⟩

set_option maxRecDepth 100000 in
set_option maxHeartbeats 8000000 in
theorem rnormal_is (l : List Star) (A : Option Addr) (n c N : Nat) (n1 : 1 ≤ N) (n3 : N ≤ 3) (hSR : ∀ s ∈ l, starErr N s = 0) (hn : n ≤ 20) (w : World) (hx : StarsAt l A n w) :
    Calls Try.prog 82 #[.slice A n c, .int .i64 N] w fun e w' => ∃ (A1 : Option Addr) (c1 : Nat) (ts : List TRow) (A2 : Option Addr) (c2 : Nat), e = .returned (.tuple #[.slice A1 N c1, .slice A2 N c2]) ∧ Below w.heap.size w w' ∧ ReadsT w' w'.heap.size A1 N ts ∧ ts.map TRow.xs = fitM l N ∧ (∀ r ∈ ts, r.n = N) ∧ Reads w' w'.heap.size 1 A2 N ((rgtL l N).map (.int .i64)) := by
  have hl := hx.len
  have HX := Lib.hid hx
  have HL := Lib.hid hl
  have HSR := Lib.hid hSR
  obtain ⟨i0, hi0, hz0, hz1, hz2⟩ := info_parts info_ints
  have HI0 := Lib.hid hi0
  have HZ0 := Lib.hid hz0
  have HZ1 := Lib.hid hz1
  have HZ2 := Lib.hid hz2
  have hmki : ∀ w : World, (Instr.makeSlice 43 (.int .i64 (N : Int)) (.int .i64 (N : Int))).run Try.prog w = .ok (.slice (some ⟨w.heap.size, 0, none⟩) N N) (w.alloc (.cells ((List.range N).map fun _ => Value.int .i64 0).toArray 3)) := fun w => by
    obtain ⟨i0, hi0, hz0, hz1, hz2⟩ := info_parts info_int
    have := run_make_rowN (P := Try.prog) 43 3 i0 _ Try.underlying43 hi0 hz0 .i64 .i64 N N (Nat.le_refl _) (by rw [hz2]; omega) (by omega) w
    rw [this, hz1, Nat.mul_one]
    rw [show (Value.int .i64 0).cells = #[.int .i64 0] from rfl, made_one]
  clear hx hl hSR hi0 hz0 hz1 hz2
  go_enter Try.func82, Try.ntmps82
  go_wp2
  generalize hw1 : World.alloc _ _ = w1
  have hr1 : RB w1 w.heap.size 3 N (fun _ => .int .i64 0) := by rw [← hw1]; exact Blk.at_ _ rfl _ _
  have hb1 : Below w.heap.size w w1 := by rw [← hw1]; exact (Below.refl _ _).alloc (Nat.le_refl _) _
  have HR1 := Lib.hid hr1
  have HB1 := Lib.hid hb1
  have hl1 := hr1.lt
  clear hw1 hr1 hb1
  go_loopw [6, 8] (fun o i wr => ∃ (k : Nat) (ts : List TRow), k ≤ N ∧ i = .int .i64 k ∧ Below w.heap.size w wr ∧ w1.heap.size ≤ wr.heap.size ∧ RB wr w.heap.size 3 N (rgtV l k 0) ∧ ts.map TRow.xs = (List.range k).map (colL l N) ∧ (∀ r ∈ ts, r.n = N) ∧ RowsOwn w1.heap.size ts o k wr) (fun _ i _ => N - (intOf i).toNat)
  case atStart => exact ⟨0, [], by omega, rfl, HB1.out, Nat.le_refl _, HR1.out.congr (fun j _ => by unfold rgtV; rw [if_neg (by omega)]; split <;> rfl), rfl, by simp, ⟨World.ownsRow_nil _ _ _ _, by simp⟩⟩
  case round =>
    obtain ⟨k, ts, hk, rfl, hb2, hz2, hr2, hts, hrn, ho⟩ := hrel
    obtain ⟨w2, hnm⟩ : ∃ z : World, z = wr := ⟨_, rfl⟩
    subst hnm
    have HB2 := Lib.hid hb2
    have HR2 := Lib.hid hr2
    have HTS := Lib.hid hts
    have HRN := Lib.hid hrn
    have HO := Lib.hid ho
    clear hb2 hr2 hts hrn ho
    by_cases hlt : k < N
    rotate_left
    · obtain rfl : N = k := by omega
      obtain ⟨A1, c1, rfl, -⟩ := own_reads HO.out.row
      have hra := HO.out.at_
      have hrg : Reads w2 w2.heap.size 1 (some ⟨w.heap.size, 0, none⟩) N ((rgtL l N).map (.int .i64)) := by
        have := (HR2.out.congr (f' := fun j => .int .i64 (rgtTo l l.length j)) (fun j hj => by unfold rgtV; rw [if_pos hj])).reads
        rw [rgtL, List.map_map]; exact this
      have HRA := Lib.hid hra
      have HRG := Lib.hid hrg
      clear hra hrg
      go_wp2
      go_ret2
      exact ⟨A1, c1, ts, _, _, rfl, HB2.out, HRA.out, HTS.out, HRN.out, HRG.out⟩
    have hkk : (k : Int) < (N : Int) := by omega
    go_wp2
    generalize hw3 : World.alloc w2 _ = w3
    have hb23 : Below w2.heap.size w2 w3 := by rw [← hw3]; exact (Below.refl _ _).alloc (Nat.le_refl _) _
    have hrow : RB w3 w2.heap.size 3 N (fun j => .int .i64 (nrmTo l 0 k j)) := by rw [← hw3]; exact (show RB (w2.alloc (.cells ((List.range N).map fun _ => Value.int .i64 0).toArray 3)) w2.heap.size 3 N (fun _ => .int .i64 0) from Blk.at_ _ rfl _ _).congr (fun j _ => rfl)
    have HB23 := Lib.hid hb23
    have HROW := Lib.hid hrow
    have HR3 := Lib.hid (HR2.out.lay hb23)
    have HO3 := Lib.hid (HO.out.below hb23)
    have hbw3 := HB2.out.trans (hb23.mono HB2.out.size)
    have HBW3 := Lib.hid hbw3
    have hl3 := hrow.lt
    have hsz2 := HB2.out.size
    have hlr := HR2.out.lt
    clear hw3 hb23 hrow hbw3
    go_loopw [10] (fun i wr => ∃ q : Nat, q ≤ n ∧ i = .int .i64 q ∧ Tch (fun g => g = w2.heap.size ∨ g = w.heap.size) w3 wr ∧ RB wr w2.heap.size 3 N (fun j => .int .i64 (nrmTo l q k j)) ∧ RB wr w.heap.size 3 N (rgtV l k q)) (fun i _ => n - (intOf i).toNat)
    case atStart => exact ⟨0, by omega, rfl, Tch.refl _ _, HROW.out, HR3.out⟩
    case round =>
      obtain ⟨q, hq, rfl, ht4, hk4, hr4⟩ := hrel
      obtain ⟨w4, hnm⟩ : ∃ z : World, z = wr := ⟨_, rfl⟩
      subst hnm
      have HT4 := Lib.hid ht4
      have HK4 := Lib.hid hk4
      have HR4 := Lib.hid hr4
      have hs4 := ht4.size
      have hbw4 : Below w.heap.size w w4 := HBW3.out.trans (ht4.below (B := w.heap.size) (fun g hg => by rcases hg with rfl | rfl <;> omega) (by omega))
      have HBW4 := Lib.hid hbw4
      clear ht4 hk4 hr4 hbw4
      by_cases hlt2 : q < n
      · obtain ⟨xb, xo, s, rfl, hxb, hs, d0, d1, -, hsl, -⟩ := HX.out.at_ hlt2
        have hsr := (HX.out.each s (List.mem_of_getElem? hs)).2
        have hok := HSR.out s (List.mem_of_getElem? hs)
        have hsx := (star_right hok).1
        have hse := (star_right hok).2.2.2.2
        have hsk : ∀ j, j < N → s.xs[j]? = some (shp s j) := fun j hj => by
          unfold shp
          rw [List.getD_eq_getElem?_getD, List.getElem?_eq_getElem (by omega)]
          rfl
        have hsn : s.n = N := by omega
        rw [hsn] at d0 hsr
        obtain ⟨pb, po, hsA, hpb, hpc⟩ := hsr.2 (by omega)
        rw [hsA] at d0
        have hpw : ∀ j, j < N → w.cell? ⟨pb, po + j, none⟩ = some (.int .i64 (shp s j)) := fun j hj => hpc j _ (by rw [List.getElem?_map, hsk j hj]; rfl)
        have HPW := Lib.hid hpw
        have HD0 := Lib.hid d0
        have HD1 := Lib.hid d1
        have HS := Lib.hid hs
        have HOK := Lib.hid hok
        have hqq : (q : Int) < (n : Int) := by omega
        clear hs hok hsx hsk hsn hpw hpc hsA d0 d1 hsl hsr
        go_wp2
        go_loopw [11] (fun i wr => ∃ a : Nat, a ≤ N ∧ i = .int .i64 a ∧ Tch (fun g => g = w2.heap.size) w4 wr ∧ RB wr w2.heap.size 3 N (rowQ l k q a)) (fun i _ => N - (intOf i).toNat)
        case atStart => exact ⟨0, by omega, rfl, Tch.refl _ _, HK4.out.congr (fun j _ => by unfold rowQ; rw [if_neg (by omega)])⟩
        case round =>
          obtain ⟨a, haN, rfl, ht5, hk5⟩ := hrel
          obtain ⟨w5, hnm⟩ : ∃ z : World, z = wr := ⟨_, rfl⟩
          subst hnm
          have HT5 := Lib.hid ht5
          have HK5 := Lib.hid hk5
          have hs5 := ht5.size
          have hbw5 : Below w.heap.size w w5 := HBW4.out.trans (ht5.below (B := w.heap.size) (fun g hg => by have hg : g = w2.heap.size := hg; omega) (by omega))
          have d0 := (hbw5.cell (p := ⟨xb, xo + q * 2, none⟩) hxb).trans HD0.out
          have d1 := (hbw5.cell (p := ⟨xb, xo + q * 2 + 1, none⟩) hxb).trans HD1.out
          have hck := (hbw5.cell (p := ⟨pb, po + k, none⟩) hpb).trans (HPW.out k hlt)
          clear ht5 hk5 hbw5
          by_cases hlt3 : a < N
          · have x1 := shp_in HOK.out k
            have x2 := shp_in HOK.out a
            have y1 := nrm_in HSR.out q k a
            have p1 := mulb x1 x2 (by decide) (by decide)
            have hq20 : (q : Int) ≤ 20 := by omega
            have v1 := IntWalk.i64_in (shp s k * shp s a) ⟨by omega, by omega⟩
            have v2 := IntWalk.i64_in (nrmTo l q k a + shp s k * shp s a) ⟨by omega, by omega⟩
            have hold : w5.cell? ⟨w2.heap.size, a, none⟩ = some (.int .i64 (nrmTo l q k a)) := by rw [HK5.out.cell hlt3]; unfold rowQ; rw [if_neg (by omega)]
            have hofr := HK5.out.frozen a
            have hka : (a : Int) < (N : Int) := by omega
            have hca : w5.cell? ⟨pb, po + a, none⟩ = some (.int .i64 (shp s a)) := ((HT5.out.cell (p := ⟨pb, po + a, none⟩) (by show pb < _; omega) (by show ¬ pb = _; omega)).trans (HBW4.out.cell (p := ⟨pb, po + a, none⟩) hpb)).trans (HPW.out a hlt3)
            clear x1 x2 y1 p1 d1
            go_wp2
            obtain ⟨W0, hW0⟩ : ∃ W0, W0 = w5.drewN 1 := ⟨_, rfl⟩
            have m0 : W0.cell? ⟨xb, xo + q * 2, none⟩ = some (.slice (some ⟨pb, po, none⟩) N s.c) := by rw [hW0]; exact d0
            have m1 : W0.cell? ⟨pb, po + k, none⟩ = some (.int .i64 (shp s k)) := by rw [hW0]; exact hck
            have m2 : W0.cell? ⟨pb, po + a, none⟩ = some (.int .i64 (shp s a)) := by rw [hW0]; exact hca
            have mo : W0.cell? ⟨w2.heap.size, a, none⟩ = some (.int .i64 (nrmTo l q k a)) := by rw [hW0]; exact hold
            have mf : W0.frozen? ⟨w2.heap.size, a, none⟩ = false := by rw [hW0]; exact hofr
            refine Fx.region (fun f w' => (f 25 = false → w' = W0) ∧ (f 25 = true → w' = W0.setCell ⟨w2.heap.size, a, none⟩ (.int .i64 (nrmTo l q k a + shp s k * shp s a)))) (by kernel_rfl) (by kernel_rfl) ?_ ?_
            · intro f hf0
              exact ⟨fun _ => hW0.symm, fun h => by rw [hf0 25] at h; cases h⟩
            have HW0 := Lib.hid hW0
            clear hW0
            repeat (first
              | (refine Fx.skip_ (by rfl) (fun f w h => h) ?_; simp only [Act.put, List.setIfInBounds_toArray, List.set_cons_zero, List.set_cons_succ])
              | (refine Fx.val_ ?_ (by rfl) ?_ (fun f w h => h) ?_
                 rotate_left
                 · intro f w' hD hk
                   obtain ⟨jw, jr⟩ := id hD
                   have jw := jw (hk.2.1 25 (by kernel_rfl))
                   have q0 : w'.cell? ⟨xb, xo + q * 2, none⟩ = some (.slice (some ⟨pb, po, none⟩) N s.c) := by rw [jw]; exact m0
                   have q1 : w'.cell? ⟨pb, po + k, none⟩ = some (.int .i64 (shp s k)) := by rw [jw]; exact m1
                   have q2 : w'.cell? ⟨pb, po + a, none⟩ = some (.int .i64 (shp s a)) := by rw [jw]; exact m2
                   have qo : w'.cell? ⟨w2.heap.size, a, none⟩ = some (.int .i64 (nrmTo l q k a)) := by rw [jw]; exact mo
                   clear hk hD jw jr
                   go_simp
                   try rfl
                 simp only [Act.put, List.setIfInBounds_toArray, List.set_cons_zero, List.set_cons_succ]))
            refine Fx.store_ (fun w' => w'.setCell ⟨w2.heap.size, a, none⟩ (.int .i64 (nrmTo l q k a + shp s k * shp s a))) (by rfl) ?_ ?_ ?_
            · intro f w' hD hk
              obtain ⟨jw, jr⟩ := id hD
              have jw := jw hk.1
              have q0 : w'.cell? ⟨w2.heap.size, a, none⟩ = some (.int .i64 (nrmTo l q k a)) := by rw [jw]; exact mo
              have q1 : w'.frozen? ⟨w2.heap.size, a, none⟩ = false := by rw [jw]; exact mf
              clear hk hD jw jr
              go_simp
            · intro f w' hD hk
              obtain ⟨jw, jr⟩ := id hD
              have jw := jw hk.1
              exact ⟨fun h => by simp [Fx.add] at h, fun _ => by rw [jw]⟩
            simp only [Act.put, List.setIfInBounds_toArray, List.set_cons_zero, List.set_cons_succ]
            refine Fx.nil_ ?_
            intro f w6 hall hD
            have hwn := hD.2 (hall 25 (by simp))
            rw [HW0.out] at hwn
            clear hall hD HW0 mo mf m0 m1 m2
            have ht8 : Tch (fun g => g = w2.heap.size) w4 w6 := by rw [hwn]; exact (HT5.out.drewN 1).setCell (.inl rfl) _
            have hk8 : RB w6 w2.heap.size 3 N (rowQ l k q (a + 1)) := by
              rw [hwn]
              refine (RB.set_ (Blk.drewN HK5.out 1 : RB _ w2.heap.size 3 N (rowQ l k q a)) a _).congr fun j hj => ?_
              unfold rowQ
              by_cases hja : j = a
              · subst hja; rw [if_pos rfl, if_pos (by omega), nrmTo_succ HS.out]
              · rw [if_neg hja]
                by_cases h : j < a
                · rw [if_pos h, if_pos (by omega)]
                · rw [if_neg h, if_neg (by omega)]
            have HT8 := Lib.hid ht8
            have HK8 := Lib.hid hk8
            clear ht8 hk8 hwn v1 v2 d0 hck hca hold hofr
            go_wp2
            go_roundw
            case rel => exact ⟨a + 1, by omega, by go_num, HT8.out, HK8.out⟩
            case measure => simp [intOf]; omega
          · obtain rfl : N = a := by omega
            have hk9 : RB w5 w2.heap.size 3 N (fun j => .int .i64 (nrmTo l (q + 1) k j)) := HK5.out.congr fun j hj => by unfold rowQ; rw [if_pos hj]
            have hr7 : RB w5 w.heap.size 3 N (rgtV l k q) := HT5.out.rb HR4.out (by show ¬ w.heap.size = w2.heap.size; omega)
            have HK9 := Lib.hid hk9
            have HR7 := Lib.hid hr7
            have x1 := shp_in HOK.out k
            have y1 := rgt_in HSR.out q k
            have p1 := mulb x1 (show -1000 ≤ s.er ∧ s.er ≤ 1000 from hse) (by decide) (by decide)
            have hq20 : (q : Int) ≤ 20 := by omega
            have v1 := IntWalk.i64_in (shp s k * s.er) ⟨by omega, by omega⟩
            have v2 := IntWalk.i64_in (rgtTo l q k + shp s k * s.er) ⟨by omega, by omega⟩
            have hold : w5.cell? ⟨w.heap.size, k, none⟩ = some (.int .i64 (rgtTo l q k)) := by rw [hr7.cell hlt]; unfold rgtV; rw [if_neg (by omega), if_pos rfl]
            have hofr := hr7.frozen k
            clear x1 y1 p1 hk9 hr7
            go_wp2
            obtain ⟨W0, hW0⟩ : ∃ W0, W0 = w5.drewN 1 := ⟨_, rfl⟩
            have m0 : W0.cell? ⟨xb, xo + q * 2, none⟩ = some (.slice (some ⟨pb, po, none⟩) N s.c) := by rw [hW0]; exact d0
            have m1 : W0.cell? ⟨xb, xo + q * 2 + 1, none⟩ = some (.int .i64 s.er) := by rw [hW0]; exact d1
            have m2 : W0.cell? ⟨pb, po + k, none⟩ = some (.int .i64 (shp s k)) := by rw [hW0]; exact hck
            have mo : W0.cell? ⟨w.heap.size, k, none⟩ = some (.int .i64 (rgtTo l q k)) := by rw [hW0]; exact hold
            have mf : W0.frozen? ⟨w.heap.size, k, none⟩ = false := by rw [hW0]; exact hofr
            refine Fx.region (fun f w' => (f 22 = false → w' = W0) ∧ (f 22 = true → w' = W0.setCell ⟨w.heap.size, k, none⟩ (.int .i64 (rgtTo l q k + shp s k * s.er)))) (by kernel_rfl) (by kernel_rfl) ?_ ?_
            · intro f hf0
              exact ⟨fun _ => hW0.symm, fun h => by rw [hf0 22] at h; cases h⟩
            have HW0 := Lib.hid hW0
            clear hW0
            repeat (first
              | (refine Fx.skip_ (by rfl) (fun f w h => h) ?_; simp only [Act.put, List.setIfInBounds_toArray, List.set_cons_zero, List.set_cons_succ])
              | (refine Fx.val_ ?_ (by rfl) ?_ (fun f w h => h) ?_
                 rotate_left
                 · intro f w' hD hk
                   obtain ⟨jw, jr⟩ := id hD
                   have jw := jw (hk.2.1 22 (by kernel_rfl))
                   have q0 : w'.cell? ⟨xb, xo + q * 2, none⟩ = some (.slice (some ⟨pb, po, none⟩) N s.c) := by rw [jw]; exact m0
                   have q1 : w'.cell? ⟨xb, xo + q * 2 + 1, none⟩ = some (.int .i64 s.er) := by rw [jw]; exact m1
                   have q2 : w'.cell? ⟨pb, po + k, none⟩ = some (.int .i64 (shp s k)) := by rw [jw]; exact m2
                   have qo : w'.cell? ⟨w.heap.size, k, none⟩ = some (.int .i64 (rgtTo l q k)) := by rw [jw]; exact mo
                   clear hk hD jw jr
                   go_simp
                   try rfl
                 simp only [Act.put, List.setIfInBounds_toArray, List.set_cons_zero, List.set_cons_succ]))
            refine Fx.store_ (fun w' => w'.setCell ⟨w.heap.size, k, none⟩ (.int .i64 (rgtTo l q k + shp s k * s.er))) (by rfl) ?_ ?_ ?_
            · intro f w' hD hk
              obtain ⟨jw, jr⟩ := id hD
              have jw := jw hk.1
              have q0 : w'.cell? ⟨w.heap.size, k, none⟩ = some (.int .i64 (rgtTo l q k)) := by rw [jw]; exact mo
              have q1 : w'.frozen? ⟨w.heap.size, k, none⟩ = false := by rw [jw]; exact mf
              clear hk hD jw jr
              go_simp
            · intro f w' hD hk
              obtain ⟨jw, jr⟩ := id hD
              have jw := jw hk.1
              exact ⟨fun h => by simp [Fx.add] at h, fun _ => by rw [jw]⟩
            simp only [Act.put, List.setIfInBounds_toArray, List.set_cons_zero, List.set_cons_succ]
            refine Fx.nil_ ?_
            intro f w6 hall hD
            have hwn := hD.2 (hall 22 (by simp))
            rw [HW0.out] at hwn
            clear hall hD HW0 mo mf m0 m1 m2
            have ht8 : Tch (fun g => g = w2.heap.size ∨ g = w.heap.size) w3 w6 := by
              rw [hwn]
              exact ((HT4.out.then_ HT5.out (fun i _ h => .inl h)).drewN 1).setCell (.inl (.inr rfl)) _
            have hk8 : RB w6 w2.heap.size 3 N (fun j => .int .i64 (nrmTo l (q + 1) k j)) := by rw [hwn]; exact Blk.far (Blk.drewN HK9.out 1) (by show w2.heap.size ≠ w.heap.size; omega) _
            have hr8 : RB w6 w.heap.size 3 N (rgtV l k (q + 1)) := by
              rw [hwn]
              refine (RB.set_ (Blk.drewN HR7.out 1 : RB _ w.heap.size 3 N (rgtV l k q)) k _).congr fun j hj => ?_
              unfold rgtV
              by_cases hja : j = k
              · subst hja; rw [if_pos rfl, if_neg (by omega), if_pos rfl, rgtTo_succ HS.out]
              · rw [if_neg hja]
                by_cases h : j < k
                · rw [if_pos h, if_pos h]
                · rw [if_neg h, if_neg hja, if_neg h, if_neg hja]
            have HT8 := Lib.hid ht8
            have HK8 := Lib.hid hk8
            have HR8 := Lib.hid hr8
            clear ht8 hk8 hr8 hwn v1 v2 hold hofr hck d0 d1
            go_wp2
            go_roundw
            case rel => exact ⟨q + 1, by omega, by go_num, HT8.out, HK8.out, HR8.out⟩
            case measure => simp [intOf]; omega
      · obtain rfl : n = q := by omega
        have ht24 : Tch (fun g => g = w2.heap.size ∨ g = w.heap.size) w2 w4 := (Tch.of_below HB23.out).trans HT4.out
        have ho4 := HO.out.tch ht24 (fun g h1 h2 h3 => by rcases h3 with h3 | h3 <;> omega)
        have hrow4 : w4.ownsRow w1.heap.size 3 1 (.slice (some ⟨w2.heap.size, 0, none⟩) N N) N ((colL l N k).map (.int .i64)) := by
          have := own_of_rb HK4.out hz2 (by unfold maxLen; omega)
          rw [colL, List.map_map, HL.out]
          exact this
        obtain ⟨W, hW⟩ : ∃ W, W = w4.alloc (.cells #[.slice (some ⟨w2.heap.size, 0, none⟩) N N] 43) := ⟨_, rfl⟩
        have hbW : Below w4.heap.size w4 W := by rw [hW]; exact (Below.refl _ _).alloc (Nat.le_refl _) _
        have hoW := ho4.below hbW
        have hnW := own_below hrow4 hbW (Nat.le_refl _)
        have hnb : Blk W w4.heap.size 43 #[.slice (some ⟨w2.heap.size, 0, none⟩) N N] := by rw [hW]; exact Blk.new _ _ _
        have hsz : W.heap.size = w4.heap.size + 1 := by rw [hW]; simp
        have hrW : RB W w.heap.size 3 N (rgtV l k n) := HR4.out.lay hbW
        obtain ⟨v', W2, hrun, o2', hg2, -⟩ := run_append_any (P := Try.prog) W w1.heap.size 65 65 43 i0 _ 1 24 Try.underlying65 HI0.out HZ0.out HZ1.out HZ2.out rfl (by omega) u6 k _ hoW.row W.heap.size (some ⟨w4.heap.size, 0, none⟩) 1 1 [.slice (some ⟨w2.heap.size, 0, none⟩) N N] (Blk.reads hnb rfl) (by simp [Value.oneCell']) (by unfold maxLen; omega) (by omega) (by omega)
        have htW : Tch (fun g => w1.heap.size ≤ g) W W2 := (Tch.refl _ W).grown hg2 (fun g hg => .inl (own_lt hoW.row hg).1)
        have hr2 := htW.rb hrW (by show ¬ w1.heap.size ≤ w.heap.size; omega)
        have hbw2 : Below w.heap.size w W2 := (HBW4.out.trans (hbW.mono (by omega))).trans (htW.below (B := w.heap.size) (fun g hg => by have hg : w1.heap.size ≤ g := hg; omega) (by omega))
        have hall : RowsOwn w1.heap.size (ts ++ [(⟨some ⟨w2.heap.size, 0, none⟩, N, N, colL l N k⟩ : TRow)]) v' (k + 1) W2 := by
          refine ⟨by rw [List.map_append]; exact o2', fun r hr => ?_⟩
          rcases List.mem_append.1 hr with h | h
          · exact own_apart (hoW.each r h) hoW.row (by decide) hg2
          · obtain rfl : r = _ := by simpa using h
            exact own_apart hnW hoW.row (by decide) hg2
        have hszW := htW.size
        rw [hW] at hrun
        have HRUN := Lib.hid hrun
        have HALL := Lib.hid hall
        have HR9 := Lib.hid hr2
        have HBW9 := Lib.hid hbw2
        have hz9 : w1.heap.size ≤ W2.heap.size := by omega
        clear hrun hall hr2 hbw2 hg2 htW hrW hnb hnW hoW hbW hW hsz hszW ht24 ho4 hrow4 o2'
        go_wp2_with (first | (at_builtin; refine wpList_app _ W2 v' rfl _ _ _ rfl _ _ rfl rfl HRUN.out ?_))
        go_roundw
        case rel =>
          refine ⟨k + 1, ts ++ [(⟨some ⟨w2.heap.size, 0, none⟩, N, N, colL l N k⟩ : TRow)], by omega, by go_num, HBW9.out, hz9, HR9.out.congr (fun j _ => ?_), ?_, fun r hr => ?_, HALL.out⟩
          · unfold rgtV
            by_cases h1 : j < k
            · rw [if_pos h1, if_pos (by omega)]
            · rw [if_neg h1]
              by_cases h2 : j = k
              · rw [if_pos h2, if_pos (by omega), HL.out]
              · rw [if_neg h2, if_neg (by omega)]
                split <;> rfl
          · rw [List.map_append, HTS.out, List.range_succ, List.map_append]
            rfl
          · rcases List.mem_append.1 hr with h | h
            · exact HRN.out r h
            · obtain rfl : r = _ := by simpa using h
              rfl
        case measure => simp [intOf]; omega
end Go.Proofs.Ytdidcpealabaiaa

end

section
/- A copy of lists of numbers in memory of its own, no two of them in one block. -/
namespace Go.Proofs.Ytdidcpealabaiaa
open Go Go.RowKit

def RowsSep (ts : List TRow) : Prop := ts.Pairwise fun r s => ∀ q, r.val.ownBlock = some q → s.val.ownBlock ≠ some q
def OwnPost (t : List TRow) (n : Nat) (w : World) (e : Ending) (w' : World) : Prop :=
  Below w.heap.size w w' ∧ ∃ A' c' ts, e = .returned (.slice A' n c') ∧ ts.map TRow.xs = t.map TRow.xs ∧ RowsOwn w.heap.size ts (.slice A' n c') n w' ∧ RowsSep ts


set_option maxRecDepth 100000 in
theorem copyown_any (A : Option Addr) (n c : Nat) (t : List TRow) (w : World) (hx : ReadsT w w.heap.size A n t) (hn : n ≤ 1000) (hrn : ∀ r ∈ t, r.n ≤ 1000) :
    Calls Try.prog 84 #[.slice A n c] w (OwnPost t n w) := by
  obtain ⟨i0, hi0, hz0, hz1, hz2⟩ := info_parts info_ints
  have hln := hx.len
  have HX := Lib.hid hx
  have HI0 := Lib.hid hi0
  have HZ0 := Lib.hid hz0
  have HZ1 := Lib.hid hz1
  have HZ2 := Lib.hid hz2
  have HLN := Lib.hid hln
  clear hx hi0 hz0 hz1 hz2 hln
  go_enter Try.func84, Try.ntmps84
  go_wp2
  go_loopw [3, 4] (fun o i wr => ∃ (k : Nat) (ts : List TRow), k ≤ n ∧ i = .int .i64 k ∧ Below w.heap.size w wr ∧ ts.map TRow.xs = (t.take k).map TRow.xs ∧ ts.length = k ∧ wr.ownsRow w.heap.size 43 1 o k (ts.map TRow.val) ∧
    (∀ r ∈ ts, wr.ownsRow w.heap.size 3 1 r.val r.n (r.xs.map (.int .i64))) ∧ RowsSep ts) (fun _ i _ => n - (intOf i).toNat)
  case atStart => exact ⟨0, [], by omega, rfl, Below.refl _ _, by simp, rfl, World.ownsRow_nil _ _ _ _, by simp, List.Pairwise.nil⟩
  case round =>
    obtain ⟨k, ts, hk, rfl, hb, hts, htl, ho, hrows, hsep⟩ := hrel
    have HO := Lib.hid ho
    have HBR := Lib.hid hb
    have HTS := Lib.hid hts
    have HTL := Lib.hid htl
    have HROWS := Lib.hid hrows
    have HSEP := Lib.hid hsep
    have hbr := hb.size
    clear ho hb hts htl hrows hsep
    by_cases hlt : k < n
    · obtain ⟨zb, zo, r, rfl, hzb, hr, c0, hrc, hrl, hrr⟩ := HX.out.at_ hlt
      have hrn' := hrn r (List.mem_of_getElem? hr)
      have f0 := (HBR.out.cell (p := ⟨zb, zo + k, none⟩) hzb).trans c0
      have HRR := Lib.hid ((hrr.below HBR.out).more hbr)
      have HR := Lib.hid hr
      clear hr hrr c0
      go_wp2_with fail
      refine (copyints_any r.A r.n r.c _ r.xs _ HRR.out (Nat.le_refl _) (by omega)).mono ?_
      rintro e w1 ⟨A1, c1, rfl, hb1, -, ho1⟩
      have hb1s := hb1.size
      have HSEP2 : Hid (RowsSep (ts ++ [(⟨A1, r.n, c1, r.xs⟩ : TRow)])) := by
        show RowsSep _
        refine List.pairwise_append.2 ⟨HSEP.out, List.pairwise_singleton _ _, fun a ha b hb => ?_⟩
        obtain rfl : b = _ := by simpa using hb
        intro q h1 h2
        have h3 := (own_lt (HROWS.out a ha) h1).2
        have h4 := (own_lt ho1 h2).1
        omega
      obtain ⟨W, hW⟩ : ∃ W, W = w1.alloc (.cells #[.slice A1 r.n c1] 43) := ⟨_, rfl⟩
      have hoW : W.ownsRow w.heap.size 43 1 u3 k (ts.map TRow.val) := by rw [hW]; exact (own_below HO.out hb1 (Nat.le_refl _)).alloc _
      have hnb : Blk W w1.heap.size 43 #[.slice A1 r.n c1] := by rw [hW]; exact Blk.new _ _ _
      have hsz : W.heap.size = w1.heap.size + 1 := by rw [hW]; simp
      have hrW : ∀ r' ∈ ts, W.ownsRow w.heap.size 3 1 r'.val r'.n (r'.xs.map (.int .i64)) := fun r' hr' => by rw [hW]; exact (own_below (HROWS.out r' hr') hb1 (Nat.le_refl _)).alloc _
      have hnW : W.ownsRow w.heap.size 3 1 (.slice A1 r.n c1) r.n (r.xs.map (.int .i64)) := by rw [hW]; exact own_mono (ho1.alloc _) hbr
      have hbW : Below w.heap.size w W := by rw [hW]; exact (HBR.out.trans (hb1.mono hbr)).alloc (by omega) _
      obtain ⟨v', W2, hrun, o2', hg2, hrow⟩ := run_append_any (P := Try.prog) W w.heap.size 65 65 43 i0 _ 1 24 Try.underlying65 HI0.out HZ0.out HZ1.out HZ2.out rfl (by omega) u3 k _ hoW W.heap.size (some ⟨w1.heap.size, 0, none⟩) 1 1 [.slice A1 r.n c1] (Blk.reads hnb rfl) (by simp [Value.oneCell']) (by unfold maxLen; omega) (by omega) (by omega)
      have hb2 := Lib.hid (hbW.grown hg2 (by omega) (fun g hg => (own_lt hoW hg).1))
      have hr2 : Hid (∀ r' ∈ ts ++ [(⟨A1, r.n, c1, r.xs⟩ : TRow)], W2.ownsRow w.heap.size 3 1 r'.val r'.n (r'.xs.map (.int .i64))) := by
        show ∀ _, _
        intro r' hr'
        rcases List.mem_append.1 hr' with h | h
        · exact own_apart (hrW r' h) hoW (by decide) hg2
        · obtain rfl : r' = ⟨A1, r.n, c1, r.xs⟩ := by simpa using h
          exact own_apart hnW hoW (by decide) hg2
      rw [hW] at hrun
      have HRUN := Lib.hid hrun
      have HO2 : Hid (W2.ownsRow w.heap.size 43 1 v' (k + 1) ((ts ++ [(⟨A1, r.n, c1, r.xs⟩ : TRow)]).map TRow.val)) := by
        show World.ownsRow _ _ _ _ _ _ _
        rw [List.map_append]
        exact o2'
      clear hrun hg2 hrow hnb hoW hW hsz hrW hnW hbW o2' hb1 ho1
      go_wp2_with (first | (at_builtin; refine wpList_app _ W2 v' rfl _ _ _ rfl _ _ rfl rfl HRUN.out ?_))
      go_roundw
      case rel =>
        refine ⟨k + 1, ts ++ [(⟨A1, r.n, c1, r.xs⟩ : TRow)], by omega, by go_num, hb2.out, ?_, by rw [List.length_append, HTL.out]; rfl, HO2.out, hr2.out, HSEP2.out⟩
        rw [List.map_append, HTS.out, List.take_add_one, HR.out, List.map_append]
        rfl
      case measure => simp [intOf]; omega
    · have hkn : k = n := by omega
      rw [hkn] at HO HTS
      clear hkn
      obtain ⟨A3, c3, rfl, hr3⟩ := own_reads HO.out
      have HRR := Lib.hid hr3
      clear hr3
      go_wp2
      go_ret
      refine ⟨HBR.out, A3, c3, ts, rfl, ?_, ⟨HO.out, HROWS.out⟩, HSEP.out⟩
      rw [HTS.out, List.take_of_length_le (by rw [HLN.out]; omega)]


end Go.Proofs.Ytdidcpealabaiaa

end
