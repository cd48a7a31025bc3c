import Derived.Test.YtoiconebcmneiabQ13
import Derived.Test.YtoiconebcmneiabQ7
import Derived.Test.YtoiconebcmneiabQ9

section
/- Contracts of the reference's list of borne names, of its check of a tree, of its top. -/
namespace Go.Proofs.Ytoiconebcmneiab
open Go.RowKit

theorem info_str2 : (Try.prog.info? 9).map (fun i => (i.zero, i.size, i.bytes)) = some (some (.string ByteArray.empty), 1, 16) := by kernel_rfl

theorem own_reads_cap {w : World} {base n size : Nat} {e : TypeId} {v : Value} {xs : List Value} (h : w.ownsRow base e size v n xs) : ∃ A c, v = .slice A n c ∧ n ≤ c ∧ Reads w w.heap.size size A n xs := by
  obtain ⟨A, c, rfl, hr⟩ := own_reads h
  refine ⟨A, c, rfl, ?_, hr⟩
  rcases h.2 with ⟨h1, h2⟩ | ⟨g, cap, cur, h1, _, _, hc, _⟩
  · injection h1 with _ h3 h4; omega
  · injection h1 with _ h3 h4; omega
theorem borne_succ {l : List Rk} {k : Nat} {r : Rk} (h : l[k]? = some r) : borneAll (l.take (k + 1)) = borneAll (l.take k) ++ [r.left, r.right] := by
  unfold borneAll
  rw [List.take_add_one, h]
  simp
theorem borne_len (l : List Rk) : (borneAll l).length = 2 * l.length := by
  rw [← pairsFrom_fst 0, List.length_map, pairsFrom_length]

set_option maxRecDepth 100000 in
set_option maxHeartbeats 1000000 in
theorem borne_any (l : List Rk) (A : Option Addr) (n c N : Nat) (w : World) (hx : Reads w N 5 A n (rkCells l)) (hN : N ≤ w.heap.size) (hn : n ≤ 100000) :
    Calls Try.prog 56 #[.slice A n c] w fun e w' => Below w.heap.size w w' ∧ ∃ A' c', e = .returned (.slice A' (2 * n) c') ∧ 2 * n ≤ c' ∧ Reads w' w'.heap.size 1 A' (2 * n) (strs (borneAll l)) := by
  obtain ⟨i0, hi0, hz0, hz1, hz2⟩ := info_parts info_str2
  have hxl := Lib.hid hx.len5
  have HX := Lib.hid hx
  have HI0 := Lib.hid hi0
  have HZ0 := Lib.hid hz0
  have HZ1 := Lib.hid hz1
  have HZ2 := Lib.hid hz2
  clear hx hi0 hz0 hz1 hz2
  go_enter Try.func56, Try.ntmps56
  go_wp2
  go_loopw [3, 4] (fun o i wr => ∃ k : Nat, k ≤ n ∧ i = .int .i64 k ∧ wr.ownsRow w.heap.size 9 1 o (2 * k) (strs (borneAll (l.take k))) ∧ Below w.heap.size w wr) (fun _ i _ => n - (intOf i).toNat)
  case atStart => exact ⟨0, by omega, rfl, World.ownsRow_nil _ _ _ _, Below.refl _ _⟩
  case round =>
    obtain ⟨k, hk, rfl, ho, hb⟩ := hrel
    have HO := Lib.hid ho
    have HB := Lib.hid hb
    clear ho hb
    by_cases hlt : k < n
    · obtain ⟨xb, xo, r, rfl, hxb, hr, -, c1, c2, -, -⟩ := HX.out.rk hlt
      have HR := Lib.hid hr
      clear hr
      rw [← HB.out.cell (p := ⟨xb, xo + k * 5 + 1, none⟩) (by simp; omega)] at c1
      rw [← HB.out.cell (p := ⟨xb, xo + k * 5 + 2, none⟩) (by simp; omega)] at c2
      obtain ⟨W0, hW0⟩ : ∃ W0, W0 = wr.drewN 1 := ⟨_, rfl⟩
      obtain ⟨W1, hW1⟩ : ∃ W1, W1 = W0.alloc (.cells #[.string r.left, .string r.right] 9) := ⟨_, rfl⟩
      have d1 : W0.cell? ⟨xb, xo + k * 5 + 1, none⟩ = some (.string r.left) := by rw [hW0]; exact c1
      have d2 : W0.cell? ⟨xb, xo + k * 5 + 2, none⟩ = some (.string r.right) := by rw [hW0]; exact c2
      have ho1 : W1.ownsRow w.heap.size 9 1 u3 (2 * k) (strs (borneAll (l.take k))) := by rw [hW1, hW0]; exact (own_drewN HO.out 1).alloc _
      have hnb : Blk W1 W0.heap.size 9 #[.string r.left, .string r.right] := by rw [hW1]; exact Blk.new _ _ _
      have hs0 : W0.heap.size = wr.heap.size := by rw [hW0]; rfl
      have hs1 : W1.heap.size = wr.heap.size + 1 := by rw [hW1, World.size_alloc, hs0]
      have hbs := HB.out.size
      have hb1 : Below w.heap.size w W1 := by rw [hW1, hW0]; exact (below_drewN HB.out 1).alloc hbs _
      obtain ⟨v', W2, hrun, o2, hg2, hrow⟩ := run_append_any (P := Try.prog) W1 w.heap.size 77 77 9 i0 _ 1 16 Try.underlying77 HI0.out HZ0.out HZ1.out HZ2.out rfl (by omega) u3 (2 * k) _ ho1 W1.heap.size (some ⟨W0.heap.size, 0, none⟩) 2 2 [.string r.left, .string r.right] (Blk.reads hnb rfl) (by simp [Value.oneCell']) (by unfold maxLen; omega) (by omega) (by omega)
      have HRUN := Lib.hid hrun
      have HO2 : Hid (W2.ownsRow w.heap.size 9 1 v' (2 * (k + 1)) (strs (borneAll (l.take (k + 1))))) := by
        show World.ownsRow _ _ _ _ _ _ _
        rw [borne_succ HR.out, show 2 * (k + 1) = 2 * k + 2 by omega]
        unfold strs at o2 ⊢
        rw [List.map_append]
        exact o2
      have HB2 := Lib.hid (hb1.grown hg2 (by omega) (fun g hg => (own_lt ho1 hg).1))
      clear hrun o2 hg2 hrow hnb ho1 hb1 c1 c2
      go_wp2
      refine Fx.region (fun f w' => (w' = if f 12 then W2 else if f 11 then W1 else W0) ∧ True) (by kernel_rfl) (by kernel_rfl) ?_ ?_
      · intro f hf0
        rw [hf0 12, hf0 11]; exact ⟨hW0.symm, trivial⟩
      repeat (first
        | (refine Fx.skip_ (by rfl) (fun f w h => h) ?_; simp only [Act.put, List.setIfInBounds_toArray, List.set_cons_zero, List.set_cons_succ])
        | (refine Fx.val_ ?_ (by rfl) ?_ (fun f w h => h) ?_
           rotate_left
           · intro f w' hD hk
             obtain ⟨jw, _⟩ := id hD
             clear hk hD jw
             go_simp
             try rfl
           simp only [Act.put, List.setIfInBounds_toArray, List.set_cons_zero, List.set_cons_succ]))
      refine Fx.val_ ?_ (by rfl) ?_ (fun f w h => h) ?_
      rotate_left
      · intro f w' hD hk
        obtain ⟨jw, _⟩ := id hD
        have hb_ : f 11 = false := hk.2.1 11 (by kernel_rfl)
        have ha_ : f 12 = false := hk.un 12 11 (by kernel_rfl) hb_
        rw [hb_, ha_] at jw
        simp only [Bool.false_eq_true, if_false] at jw
        have e1 : w'.cell? ⟨xb, xo + k * 5 + 1, none⟩ = some (.string r.left) := by rw [jw]; exact d1
        clear hk hD jw hb_ ha_
        go_simp
        try rfl
      simp only [Act.put, List.setIfInBounds_toArray, List.set_cons_zero, List.set_cons_succ]
      repeat (first
        | (refine Fx.skip_ (by rfl) (fun f w h => h) ?_; simp only [Act.put, List.setIfInBounds_toArray, List.set_cons_zero, List.set_cons_succ])
        | (refine Fx.val_ ?_ (by rfl) ?_ (fun f w h => h) ?_
           rotate_left
           · intro f w' hD hk
             obtain ⟨jw, _⟩ := id hD
             clear hk hD jw
             go_simp
             try rfl
           simp only [Act.put, List.setIfInBounds_toArray, List.set_cons_zero, List.set_cons_succ]))
      refine Fx.val_ ?_ (by rfl) ?_ (fun f w h => h) ?_
      rotate_left
      · intro f w' hD hk
        obtain ⟨jw, _⟩ := id hD
        have hb_ : f 11 = false := hk.2.1 11 (by kernel_rfl)
        have ha_ : f 12 = false := hk.un 12 11 (by kernel_rfl) hb_
        rw [hb_, ha_] at jw
        simp only [Bool.false_eq_true, if_false] at jw
        have e1 : w'.cell? ⟨xb, xo + k * 5 + 2, none⟩ = some (.string r.right) := by rw [jw]; exact d2
        clear hk hD jw hb_ ha_
        go_simp
        try rfl
      simp only [Act.put, List.setIfInBounds_toArray, List.set_cons_zero, List.set_cons_succ]
      refine Fx.eff_ (.slice (some ⟨W0.heap.size, 0, none⟩) 2 2) (fun w' => W1) (by rfl) ?_ ?_ ?_
      · intro f w' hD hk
        obtain ⟨jw, _⟩ := id hD
        have hb_ : f 11 = false := hk.1
        have ha_ : f 12 = false := hk.un 12 11 (by kernel_rfl) hb_
        rw [hb_, ha_] at jw
        simp only [Bool.false_eq_true, if_false] at jw
        subst jw
        clear hk hD
        rw [hW1]
        go_simp
      · intro f w' hD hk
        obtain ⟨jw, _⟩ := id hD
        have hb_ : f 11 = false := hk.1
        have ha_ : f 12 = false := hk.un 12 11 (by kernel_rfl) hb_
        rw [hb_, ha_] at jw
        simp only [Bool.false_eq_true, if_false] at jw
        subst jw
        exact ⟨by simp [Fx.add, ha_], trivial⟩
      simp only [Act.put, List.setIfInBounds_toArray, List.set_cons_zero, List.set_cons_succ]
      refine Fx.eff_ (v') (fun w' => W2) (by rfl) ?_ ?_ ?_
      · intro f w' hD hk
        obtain ⟨jw, _⟩ := id hD
        have hb_ : f 11 = true := hk.2.2.1 11 (by kernel_rfl)
        have ha_ : f 12 = false := hk.1
        rw [hb_, ha_] at jw
        simp only [Bool.false_eq_true, if_false, if_true] at jw
        subst jw
        exact exec_append (.tmp 11) (.tmp 22) _ rfl HRUN.out
      · intro f w' hD hk
        obtain ⟨jw, _⟩ := id hD
        have hb_ : f 11 = true := hk.2.2.1 11 (by kernel_rfl)
        have ha_ : f 12 = false := hk.1
        rw [hb_, ha_] at jw
        simp only [Bool.false_eq_true, if_false, if_true] at jw
        subst jw
        exact ⟨by simp [Fx.add], trivial⟩
      simp only [Act.put, List.setIfInBounds_toArray, List.set_cons_zero, List.set_cons_succ]
      repeat (first
        | (refine Fx.skip_ (by rfl) (fun f w h => h) ?_; simp only [Act.put, List.setIfInBounds_toArray, List.set_cons_zero, List.set_cons_succ])
        | (refine Fx.val_ ?_ (by rfl) ?_ (fun f w h => h) ?_
           rotate_left
           · intro f w' hD hk
             obtain ⟨jw, _⟩ := id hD
             clear hk hD jw
             go_simp
             try rfl
           simp only [Act.put, List.setIfInBounds_toArray, List.set_cons_zero, List.set_cons_succ]))
      refine Fx.nil_ ?_
      intro f w1 hall hD
      have hf12 := hall 12 (by simp)
      obtain ⟨jw, _⟩ := hD
      simp only [hf12, if_true] at *
      subst jw
      try clear hall
      go_wp2
      go_roundw
      case rel => exact ⟨k + 1, by omega, by go_num, HO2.out, HB2.out⟩
      case measure => simp [intOf]; omega
    · have hkn : k = n := by omega
      have ho := HO.out
      rw [hkn, List.take_of_length_le (by rw [hxl.out]; omega)] at ho
      obtain ⟨A', c', rfl, hcc, hr'⟩ := own_reads_cap ho
      have HRR := Lib.hid hr'
      clear hkn ho hr'
      go_wp2
      go_ret
      exact ⟨HB.out, A', c', rfl, hcc, HRR.out⟩

end Go.Proofs.Ytoiconebcmneiab

end
