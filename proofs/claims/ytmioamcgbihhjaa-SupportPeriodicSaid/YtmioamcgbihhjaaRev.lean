/- The contract of the reversal of a train in its own memory. -/
import Derived.Test.YtmioamcgbihhjaaFind
namespace Go.Proofs.Ytmioamcgbihhjaa
open Go.RowKit

theorem cells2_set : ∀ (m : List (Int × Int)) (q : Nat) (r : Int × Int), cells2 (m.set q r) = ((cells2 m).set (q * 2) (.int .i64 r.1)).set (q * 2 + 1) (.int .i64 r.2)
  | [], q, r => by simp [cells2]
  | p :: m, 0, r => by simp [cells2]
  | p :: m, q + 1, r => by
    have e : ∀ x : Int × Int, ∀ t : List (Int × Int), cells2 (x :: t) = .int .i64 x.1 :: .int .i64 x.2 :: cells2 t := fun _ _ => rfl
    rw [List.set_cons_succ, e, e, cells2_set m q r, show (q + 1) * 2 = q * 2 + 1 + 1 by omega, List.set_cons_succ, List.set_cons_succ, List.set_cons_succ, List.set_cons_succ]

/-- The first q and the last q are exchanged. -/
structure Turned (l m : List (Int × Int)) (q : Nat) : Prop where
  len : m.length = l.length
  get : ∀ k, k < l.length → m[k]? = if k < q ∨ l.length - q ≤ k then l[l.length - 1 - k]? else l[k]?

theorem Turned.start (l : List (Int × Int)) : Turned l l 0 := ⟨rfl, fun k hk => by rw [if_neg (by omega)]⟩
theorem Turned.step {l m : List (Int × Int)} {q jj : Nat} {p r : Int × Int} (h : Turned l m q) (hj : q + jj + 1 = l.length) (hlt : q < jj) (hp : m[q]? = some p) (hr : m[jj]? = some r) : Turned l ((m.set q r).set jj p) (q + 1) := by
  have hp' := h.get q (by omega)
  have hr' := h.get jj (by omega)
  rw [if_neg (by omega), hp] at hp'
  rw [if_neg (by omega), hr] at hr'
  refine ⟨by simp [h.len], fun k hk => ?_⟩
  rw [List.getElem?_set, List.getElem?_set]
  by_cases e1 : jj = k
  · subst e1
    rw [if_pos rfl, if_pos (by simp [h.len]; omega), if_pos (by omega), show l.length - 1 - jj = q by omega]
    exact hp'
  · rw [if_neg e1]
    by_cases e2 : q = k
    · subst e2
      rw [if_pos rfl, if_pos (by rw [h.len]; omega), if_pos (by omega), show l.length - 1 - q = jj by omega]
      exact hr'
    · rw [if_neg e2, h.get k hk]
      by_cases e3 : k < q ∨ l.length - q ≤ k
      · rw [if_pos e3, if_pos (by omega)]
      · rw [if_neg e3, if_neg (by omega)]
theorem Turned.end_ {l m : List (Int × Int)} {q : Nat} (h : Turned l m q) (hq : l.length ≤ 2 * q + 1) : m = l.reverse := by
  refine List.ext_getElem? fun k => ?_
  by_cases hk : k < l.length
  · rw [h.get k hk, List.getElem?_reverse hk]
    by_cases e : k < q ∨ l.length - q ≤ k
    · rw [if_pos e]
    · rw [if_neg e]
      congr 1
      omega
  · rw [List.getElem?_eq_none (by rw [h.len]; omega), List.getElem?_eq_none (by simp; omega)]

set_option maxRecDepth 100000 in
set_option maxHeartbeats 2000000 in
theorem reverse_any (base : Nat) (A : Option Addr) (n c : Nat) (l : List (Int × Int)) (w : World) (hown : w.ownsRow base 45 2 (.slice A n c) n (cells2 l)) (hn : n ≤ 1000) :
    Calls Try.prog 110 #[.slice A n c] w fun e w' => e = .returned (.tuple #[]) ∧ Below base w w' ∧ w'.ownsRow base 45 2 (.slice A n c) n (cells2 l.reverse) := by
  have hxl : l.length = n := by have := hown.1; rw [cells2_length] at this; omega
  have HXL := Lib.hid hxl
  have HOWN := Lib.hid hown
  have v0 : IntKind.i64.wrap ((n : Int) - 1) = (n : Int) - 1 := IntWalk.i64_in ((n : Int) - 1) ⟨by omega, by omega⟩
  clear hown hxl
  go_enter Try.func110, Try.ntmps110
  go_wp2
  go_loopw [2, 3] (fun i j wr => ∃ (q : Nat) (m : List (Int × Int)), 2 * q ≤ n ∧ i = .int .i64 q ∧ j = .int .i64 ((n : Int) - 1 - q) ∧ Hid (Turned l m q) ∧ Below base w wr ∧ wr.ownsRow base 45 2 (.slice A n c) n (cells2 m)) (fun i _ _ => n - (intOf i).toNat)
  case atStart => exact ⟨0, l, by omega, rfl, by simp, Turned.start l, Below.refl _ _, HOWN.out⟩
  case round =>
    obtain ⟨q, m, hq, rfl, rfl, HT, hb, ho⟩ := hrel
    have HB := Lib.hid hb
    have HO := Lib.hid ho
    clear hb ho
    by_cases hlt : (q : Int) < (n : Int) - 1 - q
    · obtain ⟨jj, hjj⟩ : ∃ jj : Nat, q + jj + 1 = n := ⟨n - 1 - q, by omega⟩
      have ej : (n : Int) - 1 - (q : Int) = (jj : Int) := by omega
      obtain ⟨AO, CO, hv, hr⟩ := own_reads HO.out
      cases hv
      obtain ⟨g, cap, cur, hv, hg, hh, hn1, hn2, hsz, htk⟩ : ∃ g cap cur, Value.slice A n c = .slice (some ⟨g, 0, none⟩) n cap ∧ base ≤ g ∧ wr.heap[g]? = some (.cells cur 45 (0, 0)) ∧ n ≤ cap ∧ cap ≤ maxLen ∧ cur.size = cap * 2 ∧ cur.toList.take (n * 2) = cells2 m := by
        rcases HO.out.2 with ⟨h1, h2⟩ | h
        · omega
        · exact h
      cases hv
      obtain ⟨b1, o1, p, e1, -, hp, c0, c1⟩ := hr.pair (show q < n by omega)
      cases e1
      obtain ⟨b2, o2, r, e2, -, hr2, c2, c3⟩ := hr.pair (show jj < n by omega)
      cases e2
      simp only [Nat.zero_add] at c0 c1 c2 c3
      have hblk : Blk wr g 45 cur := hh
      have f0 : wr.frozen? ⟨g, q * 2, none⟩ = false := hblk.frozen _
      have f1 : wr.frozen? ⟨g, q * 2 + 1, none⟩ = false := hblk.frozen _
      have f2 : wr.frozen? ⟨g, jj * 2, none⟩ = false := hblk.frozen _
      have f3 : wr.frozen? ⟨g, jj * 2 + 1, none⟩ = false := hblk.frozen _
      have v1 : IntKind.i64.wrap (q : Int) = (q : Int) := IntWalk.i64_in (q : Int) ⟨by omega, by omega⟩
      have v2 : IntKind.i64.wrap (jj : Int) = (jj : Int) := IntWalk.i64_in (jj : Int) ⟨by omega, by omega⟩
      have v3 : (0 : Int) ≤ (q : Int) := by omega
      have v4 : (q : Int) < (n : Int) := by omega
      have v5 : (0 : Int) ≤ (jj : Int) := by omega
      have v6 : (jj : Int) < (n : Int) := by omega
      have v7 : (q : Int) < (jj : Int) := by omega
      have v8 := IntWalk.i64_in ((jj : Int) - 1) ⟨by omega, by omega⟩
      have d1 : ¬ q * 2 = jj * 2 := by omega
      have d2 : ¬ q * 2 + 1 = jj * 2 := by omega
      have d3 : ¬ q * 2 = jj * 2 + 1 := by omega
      have d4 : ¬ q = jj := by omega
      have HTN := Lib.hid (HT.out.step (by rw [HXL.out]; exact hjj) (by omega) hp hr2)
      have HH := Lib.hid hblk
      have HTK := Lib.hid htk
      have HSZ := Lib.hid hsz
      rw [ej]
      clear hp hr2 hr hh hblk htk hsz
      go_wp2
      refine Fx.regionW (fun W f w' => (f 13 = false → f 15 = false → ∃ k, w' = W.drewN k) ∧ (f 13 = true → f 15 = false → ∃ k, w' = ((W.drewN k).setCell ⟨g, q * 2, none⟩ (.int .i64 r.1)).setCell ⟨g, q * 2 + 1, none⟩ (.int .i64 r.2)) ∧ (f 15 = true → ∃ k, w' = ((((W.drewN k).setCell ⟨g, q * 2, none⟩ (.int .i64 r.1)).setCell ⟨g, q * 2 + 1, none⟩ (.int .i64 r.2)).setCell ⟨g, jj * 2, none⟩ (.int .i64 p.1)).setCell ⟨g, jj * 2 + 1, none⟩ (.int .i64 p.2))) (by kernel_rfl) (by kernel_rfl) ?_ ?_
      · intro f hf0
        exact ⟨fun _ _ => ⟨1, rfl⟩, fun h => by rw [hf0 13] at h; (cases h), fun h => by rw [hf0 15] at h; cases h⟩
      repeat (first
        | (refine Fx.skip_ (by rfl) (fun f w h => h) ?_; simp only [Act.put, List.setIfInBounds_toArray, List.set_cons_zero, List.set_cons_succ])
        | (refine Fx.val_ ?_ (by rfl) ?_ (fun f w h => h) ?_
           rotate_left
           · intro f w' hD hk
             obtain ⟨h1, h2, h3⟩ := id hD
             clear hk hD h1 h2 h3
             go_simp
             try rfl
           simp only [Act.put, List.setIfInBounds_toArray, List.set_cons_zero, List.set_cons_succ]))
      refine Fx.val_ ?_ (by rfl) ?_ (fun f w h => h) ?_
      rotate_left
      · intro f w' hD hk
        obtain ⟨h1, h2, h3⟩ := id hD
        obtain ⟨k, rfl⟩ := h1 (hk.2.1 13 (by kernel_rfl)) (hk.2.1 15 (by kernel_rfl))
        clear hk hD h1 h2 h3
        go_simp
        try rfl
      simp only [Act.put, List.setIfInBounds_toArray, List.set_cons_zero, List.set_cons_succ]
      repeat (first
        | (refine Fx.skip_ (by rfl) (fun f w h => h) ?_; simp only [Act.put, List.setIfInBounds_toArray, List.set_cons_zero, List.set_cons_succ])
        | (refine Fx.val_ ?_ (by rfl) ?_ (fun f w h => h) ?_
           rotate_left
           · intro f w' hD hk
             obtain ⟨h1, h2, h3⟩ := id hD
             clear hk hD h1 h2 h3
             go_simp
             try rfl
           simp only [Act.put, List.setIfInBounds_toArray, List.set_cons_zero, List.set_cons_succ]))
      refine Fx.val_ ?_ (by rfl) ?_ (fun f w h => h) ?_
      rotate_left
      · intro f w' hD hk
        obtain ⟨h1, h2, h3⟩ := id hD
        obtain ⟨k, rfl⟩ := h1 (hk.2.1 13 (by kernel_rfl)) (hk.2.1 15 (by kernel_rfl))
        clear hk hD h1 h2 h3
        go_simp
        try rfl
      simp only [Act.put, List.setIfInBounds_toArray, List.set_cons_zero, List.set_cons_succ]
      repeat (first
        | (refine Fx.skip_ (by rfl) (fun f w h => h) ?_; simp only [Act.put, List.setIfInBounds_toArray, List.set_cons_zero, List.set_cons_succ])
        | (refine Fx.val_ ?_ (by rfl) ?_ (fun f w h => h) ?_
           rotate_left
           · intro f w' hD hk
             obtain ⟨h1, h2, h3⟩ := id hD
             clear hk hD h1 h2 h3
             go_simp
             try rfl
           simp only [Act.put, List.setIfInBounds_toArray, List.set_cons_zero, List.set_cons_succ]))
      refine Fx.store_ (fun w' => (w'.setCell ⟨g, q * 2, none⟩ (.int .i64 r.1)).setCell ⟨g, q * 2 + 1, none⟩ (.int .i64 r.2)) (by rfl) ?_ ?_ ?_
      · intro f w' hD hk
        obtain ⟨h1, h2, h3⟩ := id hD
        have e15 : f 15 = false := hk.2.1 15 (by kernel_rfl)
        obtain ⟨k, rfl⟩ := h1 hk.1 e15
        clear h1 h2 h3
        clear hk hD
        go_simp
      · intro f w' hD hk
        obtain ⟨h1, h2, h3⟩ := id hD
        have e15 : f 15 = false := hk.2.1 15 (by kernel_rfl)
        obtain ⟨k, rfl⟩ := h1 hk.1 e15
        clear h1 h2 h3
        exact ⟨fun h => by simp [Fx.add] at h, fun _ _ => ⟨k, rfl⟩, fun h => by simp [Fx.add, e15] at h⟩
      simp only [Act.put, List.setIfInBounds_toArray, List.set_cons_zero, List.set_cons_succ]
      repeat (first
        | (refine Fx.skip_ (by rfl) (fun f w h => h) ?_; simp only [Act.put, List.setIfInBounds_toArray, List.set_cons_zero, List.set_cons_succ])
        | (refine Fx.val_ ?_ (by rfl) ?_ (fun f w h => h) ?_
           rotate_left
           · intro f w' hD hk
             obtain ⟨h1, h2, h3⟩ := id hD
             clear hk hD h1 h2 h3
             go_simp
             try rfl
           simp only [Act.put, List.setIfInBounds_toArray, List.set_cons_zero, List.set_cons_succ]))
      refine Fx.store_ (fun w' => (w'.setCell ⟨g, jj * 2, none⟩ (.int .i64 p.1)).setCell ⟨g, jj * 2 + 1, none⟩ (.int .i64 p.2)) (by rfl) ?_ ?_ ?_
      · intro f w' hD hk
        obtain ⟨h1, h2, h3⟩ := id hD
        obtain ⟨k, rfl⟩ := h2 (hk.2.2.1 13 (by kernel_rfl)) hk.1
        clear h1 h2 h3
        clear hk hD
        go_simp
      · intro f w' hD hk
        obtain ⟨h1, h2, h3⟩ := id hD
        obtain ⟨k, rfl⟩ := h2 (hk.2.2.1 13 (by kernel_rfl)) hk.1
        clear h1 h2 h3
        exact ⟨fun _ h => by simp [Fx.add] at h, fun _ h => by simp [Fx.add] at h, fun _ => ⟨k, rfl⟩⟩
      simp only [Act.put, List.setIfInBounds_toArray, List.set_cons_zero, List.set_cons_succ]
      refine Fx.nil_ ?_
      intro f w1 hall hD
      have hf15 := hall 15 (by simp)
      obtain ⟨_, _, h3⟩ := hD
      simp only [hf15, if_true] at *
      obtain ⟨kk, rfl⟩ := h3 (by first | rfl | trivial)
      clear h3
      go_wp2
      go_roundw
      case rel =>
        refine ⟨q + 1, (m.set q r).set jj p, by omega, by go_num, ?_, HTN.out, ?_, ?_⟩
        · exact congrArg _ (by first | omega | (push_cast; omega))
        · exact ((((below_drewN HB.out kk).setCell (p := ⟨g, q * 2, none⟩) hg _).setCell (p := ⟨g, q * 2 + 1, none⟩) hg _).setCell (p := ⟨g, jj * 2, none⟩) hg _).setCell (p := ⟨g, jj * 2 + 1, none⟩) hg _
        · have hb := ((((HH.out.drewN kk).set_ (q * 2) (.int .i64 r.1)).set_ (q * 2 + 1) (.int .i64 r.2)).set_ (jj * 2) (.int .i64 p.1)).set_ (jj * 2 + 1) (.int .i64 p.2)
          refine ⟨by rw [cells2_length, HTN.out.len, HXL.out], .inr ⟨g, c, _, rfl, hg, hb, hn1, hn2, by simp [HSZ.out], ?_⟩⟩
          simp only [Array.toList_setIfInBounds, List.take_set, HTK.out]
          rw [cells2_set, cells2_set]
      case measure => simp [intOf]; omega
    · go_wp2
      go_end0
      have hm := HT.out.end_ (by rw [HXL.out]; omega)
      exact ⟨rfl, HB.out, hm ▸ HO.out⟩

end Go.Proofs.Ytmioamcgbihhjaa
