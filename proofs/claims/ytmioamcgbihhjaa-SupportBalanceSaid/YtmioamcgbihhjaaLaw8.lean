/- The walk of the statement on the balance of axes. -/
import Derived.Test.YtmioamcgbihhjaaRCw
import Derived.Test.YtmioamcgbihhjaaCopy
import Derived.Test.YtmioamcgbihhjaaAwake
import Derived.Test.YtmioamcgbihhjaaArgs
namespace Go.Proofs.Ytmioamcgbihhjaa
open Go Go.RowKit

@[go_sem] theorem held_arr2 : Try.prog.stoodInHeld 51 = false := by kernel_rfl
@[go_sem] theorem guard_arr2 : Try.prog.eqGuardType Try.prog.depth 51 = false := by kernel_rfl
theorem eq_arr2 (a b c d : Int) (w : World) : (Op.equalIn 10000 51 (.agg #[.int .i64 a, .int .i64 b]) (.agg #[.int .i64 c, .int .i64 d])).run Try.prog w = .ok (decide ((a, b) = (c, d))) w := by
  have h0 : (sizeOf 3).run Try.prog w = .ok 1 w := by kernel_rfl
  have p0 : ∀ u v : Value, (part 3 #[u, v] 0).run Try.prog w = .ok u w := fun _ _ => by kernel_rfl
  have p1 : ∀ u v : Value, (part 3 #[u, v] 1).run Try.prog w = .ok v w := fun _ _ => by kernel_rfl
  have q : ∀ u v : Int, (Op.equalIn 9999 3 (.int .i64 u) (.int .i64 v)).run Try.prog w = .ok (u == v) w := fun u v => run_equalIn_int w 9998 _ .i64 .i64 u v Try.underlying3
  show (Op.equalIn (9999 + 1) _ _ _).run _ w = _
  rw [Op.equalIn.eq_def]
  simp only [Sem.run_bind, run_underlying Try.underlying51, Result.andThen_ok, h0]
  rw [Std.Legacy.Range.forIn_eq_forIn_range']
  simp [List.range', p0, p1, q, Sem.run_bind]
  by_cases h1 : a = c <;> by_cases h2 : b = d <;> simp [h1, h2, p0, p1, q]
@[go_sem ↓ high] theorem eql_arr2 (a b c d : Int) (w : World) : (binOp .eql 51 (.agg #[.int .i64 a, .int .i64 b]) (.agg #[.int .i64 c, .int .i64 d])).run Try.prog w = .ok (.bool (decide ((a, b) = (c, d)))) w := by
  rw [run_eql_struct, eq_arr2]; rfl
@[go_sem ↓ high] theorem neq_arr2 (a b c d : Int) (w : World) : (binOp .neq 51 (.agg #[.int .i64 a, .int .i64 b]) (.agg #[.int .i64 c, .int .i64 d])).run Try.prog w = .ok (.bool (!decide ((a, b) = (c, d)))) w := by
  rw [run_neq_struct, eq_arr2]; rfl

theorem triples_of_ints : ∀ (n : Nat) (xs : List Int), xs.length = n * 3 → ∃ l : List (Int × Int × Int), l.length = n ∧ cells3 l = xs.map (.int .i64)
  | 0, xs, h => by
    obtain rfl : xs = [] := List.length_eq_zero_iff.1 (by simpa using h)
    exact ⟨[], rfl, rfl⟩
  | n + 1, x :: y :: z :: t, h => by
    obtain ⟨l, h1, h2⟩ := triples_of_ints n t (by simp at h; omega)
    exact ⟨(x, y, z) :: l, by simp [h1], by simpa [cells3] using h2⟩
  | n + 1, [_, _], h => by simp at h; omega
  | n + 1, [_], h => by simp at h; omega
  | n + 1, [], h => by simp at h

theorem info_load : (Try.prog.info? 80).map (fun i => (i.zero, i.size, i.bytes)) = some (some (.agg #[.int .i64 0, .int .i64 0, .int .i64 0]), 3, 24) := by kernel_rfl

/-- A copy where the number of the empty list's block is told. -/
theorem copy_at {P : Program} (g : Nat) (t ty e : TypeId) (z : Value) (size bytes : Nat) (ht : P.underlying t = some (.slice e)) (hi : (P.info? e).map (fun i => (i.zero, i.size, i.bytes)) = some (some z, size, bytes)) (hzs : z.cells.size = size) (hsz : 0 < size)
    (w : World) (hg : w.heap.size = g) (N : Nat) (A : Option Addr) (n c : Nat) (xs : List Value) (hr : Reads w N size A n xs) (hN : N ≤ w.heap.size) (h1 : ∀ u ∈ xs, u.oneCell' = true) (hn : n ≤ maxLen) (hbytes : n * bytes ≤ 140737488355328) :
    ∃ v' W2, (Builtin.append_ #[t, t] ty #[.slice (some ⟨g, 0, none⟩) 0 0, .slice A n c]).run P (w.alloc (.cells #[] e)) = .ok v' W2 ∧ W2.ownsRow w.heap.size e size v' n xs ∧ Below w.heap.size w W2 :=
  hg ▸ copy_run t ty e z size bytes ht hi hzs hsz w N A n c xs hr hN h1 hn hbytes

/-- With a whole counterweight the moment is zero. -/
theorem balanced {M arm x : Int} (h0 : ¬ arm = 0) (h : cwOf M arm = ((x, 1), 0)) : x * arm = M ∧ 0 ≤ x := by
  have key : ∀ a b : Int, 1 ≤ b → tailF a b = ((x, 1), 0) → a = x * b ∧ 0 ≤ x := by
    intro a b hb ht
    unfold tailF at ht
    split at ht
    · cases ht
    · split at ht
      · cases ht
      · rename_i hn _
        have e1 := congrArg (fun q => q.1.1) ht
        have e2 := congrArg (fun q => q.1.2) ht
        simp only at e1 e2
        have m1 : (Int.gcd a b : Int) * redN a b = a := Int.mul_ediv_cancel' (Int.gcd_dvd_left a b)
        have m2 : (Int.gcd a b : Int) * redD a b = b := Int.mul_ediv_cancel' (Int.gcd_dvd_right a b)
        rw [e1] at m1
        rw [e2, Int.mul_one] at m2
        rw [m2] at m1
        have hx := mt (redN_neg (a := a) hb).1 hn
        rw [e1] at hx
        exact ⟨by rw [← m1, Int.mul_comm], by omega⟩
  by_cases hs : arm < 0
  · rw [cwOf_neg hs] at h
    obtain ⟨k1, k2⟩ := key _ _ (by omega) h
    rw [Int.mul_neg] at k1
    exact ⟨by omega, k2⟩
  · rw [cwOf_pos hs] at h
    obtain ⟨k1, k2⟩ := key _ _ (by omega) h
    exact ⟨k1.symm, k2⟩

theorem cwF_ok {m : Int × Int} {axis arm x y : Int} (h : cwF m axis arm = ((x, y), 0)) : (axis = 0 ∨ axis = 1) ∧ -10000000 ≤ arm ∧ arm ≤ 10000000 ∧ ¬ arm = 0 ∧ cwOf (if axis = 0 then -m.1 else -m.2) arm = ((x, y), 0) := by
  unfold cwF at h
  split at h
  · cases h
  · split at h
    · cases h
    · rename_i h1 h2
      have g1 : withinB axis 0 1 = true := by cases g : withinB axis 0 1 with | true => rfl | false => exact absurd (.inl g) h1
      have g2 : withinB arm (-10000000) 10000000 = true := by cases g : withinB arm (-10000000) 10000000 with | true => rfl | false => exact absurd (.inr g) h1
      have := within_yes g1
      have := within_yes g2
      exact ⟨by omega, by omega, by omega, h2, h⟩

/-- One load more. -/
theorem loads_more {l : List (Int × Int × Int)} {p : Int × Int × Int} (h : loadsErr l = 0) (hl : l.length < 60) (hp : loadErr p = 0) : loadsErr (l ++ [p]) = 0 := by
  obtain ⟨h1, h2⟩ := loadsErr_ok h
  unfold loadsErr
  rw [if_neg (by simp; omega)]
  refine firstErr_ok fun x hx => ?_
  rcases List.mem_append.1 hx with hx | hx
  · exact h2 x hx
  · simp at hx; exact hx ▸ hp

set_option maxRecDepth 100000 in
set_option maxHeartbeats 2000000 in
theorem law8_any (A : Option Addr) (n c : Nat) (xs : List Int) (axis arm : Int) (w : World) (hnc : n ≤ c ∧ c ≤ 9223372036854775807) (hl : xs.length = n * 3) (hi : ∀ z ∈ xs, I64 z) (hx : Reads w w.heap.size 3 A n (xs.map (.int .i64)))
    (_ : -9223372036854775808 ≤ axis) (_ : axis ≤ 9223372036854775807) (_ : -9223372036854775808 ≤ arm) (_ : arm ≤ 9223372036854775807) :
    Calls Try.prog 8 #[.slice A n c, .int .i64 axis, .int .i64 arm] w fun e w' => e = .returned (.bool true) ∧ Below w.heap.size w w' := by
  obtain ⟨hn0, hn2⟩ := hnc
  have hn : n ≤ 9223372036854775807 := by omega
  obtain ⟨l, hl2, hcl⟩ := triples_of_ints n xs hl
  rw [← hcl] at hx
  clear hcl hl hi xs
  have HX := Lib.hid hx
  have HL := Lib.hid hl2
  clear hx hl2 hn0 hn2
  have hcs : (12 < (n : Int) ∧ (n : Int) ≤ 60) ∨ (12 < (n : Int) ∧ ¬ (n : Int) ≤ 60 ∧ 63 < (n : Int)) ∨ (12 < (n : Int) ∧ ¬ (n : Int) ≤ 60 ∧ ¬ 63 < (n : Int)) ∨ (¬ 12 < (n : Int) ∧ ¬ 63 < (n : Int)) := by omega
  have HCS := Lib.hid hcs
  clear hcs
  rcases HCS.out with ⟨k1, k2⟩ | ⟨k1, k2, k3⟩ | hk
  · go_enter Try.func8, Try.ntmps8
    go_wp2_with fail
    refine (awake_any _).mono ?_
    rintro e w1 ⟨rfl, hb⟩
    have HB1 := Lib.hid (show Below w.heap.size w w1 from step_below hb (by repeat' (first | exact Below.refl _ _ | exact HB0.out | refine below_drewN ?_ _ | refine Below.drew ?_ | refine Below.alloc ?_ (by first | omega | (simp; done) | (simp; omega) | (simp [World.setCell]; omega)) _ | refine Below.setCell ?_ (by first | omega | (simp; done) | (simp; omega)) _ | assumption)))
    have hz1 := hb.size
    try simp only [World.size_alloc, World.drewN, World.drew] at hz1
    clear hb
    go_wp2
    go_ret
    exact ⟨rfl, by repeat' (first | exact Below.refl _ _ | exact HB1.out | refine below_drewN ?_ _ | refine Below.drew ?_ | refine Below.alloc ?_ (by first | omega | (simp; done) | (simp; omega) | (simp [World.setCell]; omega)) _ | refine Below.setCell ?_ (by first | omega | (simp; done) | (simp; omega)) _ | assumption)⟩
  · go_enter Try.func8, Try.ntmps8
    go_wp2_with fail
    refine (awake_any _).mono ?_
    rintro e w1 ⟨rfl, hb⟩
    have HB1 := Lib.hid (show Below w.heap.size w w1 from step_below hb (by repeat' (first | exact Below.refl _ _ | exact HB0.out | refine below_drewN ?_ _ | refine Below.drew ?_ | refine Below.alloc ?_ (by first | omega | (simp; done) | (simp; omega) | (simp [World.setCell]; omega)) _ | refine Below.setCell ?_ (by first | omega | (simp; done) | (simp; omega)) _ | assumption)))
    have hz1 := hb.size
    try simp only [World.size_alloc, World.drewN, World.drew] at hz1
    clear hb
    go_wp2
    go_ret
    exact ⟨rfl, by repeat' (first | exact Below.refl _ _ | exact HB1.out | refine below_drewN ?_ _ | refine Below.drew ?_ | refine Below.alloc ?_ (by first | omega | (simp; done) | (simp; omega) | (simp [World.setCell]; omega)) _ | refine Below.setCell ?_ (by first | omega | (simp; done) | (simp; omega)) _ | assumption)⟩
  have hn43 : n ≤ 63 := by omega
  have HK := Lib.hid hk
  clear hk HCS
  obtain ⟨E, hE⟩ : ∃ E, loadsErr l = E := ⟨_, rfl⟩
  obtain ⟨R, hR⟩ : ∃ R, cwAll l axis arm = R := ⟨_, rfl⟩
  obtain ⟨⟨x, y⟩, e⟩ := R
  obtain ⟨M, hM⟩ : ∃ M, (if loadsErr l ≠ 0 then ((0, 0), loadsErr l) else (momF l, 0)) = M := ⟨_, rfl⟩
  obtain ⟨⟨mx, my⟩, me⟩ := M
  have hme : me = E := by
    by_cases h0 : loadsErr l = 0
    · rw [if_neg (by simp [h0])] at hM
      have := congrArg (fun q => q.2) hM
      simp only at this
      omega
    · rw [if_pos h0] at hM
      have := congrArg (fun q => q.2) hM
      simp only at this
      omega
  subst hme
  have HE := Lib.hid hE
  have HR := Lib.hid hR
  have HM := Lib.hid hM
  clear hE hR hM
  rcases HK.out with ⟨k1, k2, k3⟩ | ⟨k1, k3⟩
  · skip
    go_enter Try.func8, Try.ntmps8
    go_wp2_with fail
    refine (awake_any _).mono ?_
    rintro e w1 ⟨rfl, hb⟩
    have HB1 := Lib.hid (show Below w.heap.size w w1 from step_below hb (by repeat' (first | exact Below.refl _ _ | exact HB0.out | refine below_drewN ?_ _ | refine Below.drew ?_ | refine Below.alloc ?_ (by first | omega | (simp; done) | (simp; omega) | (simp [World.setCell]; omega)) _ | refine Below.setCell ?_ (by first | omega | (simp; done) | (simp; omega)) _ | assumption)))
    have hz1 := hb.size
    try simp only [World.size_alloc, World.drewN, World.drew] at hz1
    clear hb
    obtain ⟨v2, w2, hrun2, ho2, hb2⟩ := copy_run (P := Try.prog) 72 72 80 _ 3 24 Try.underlying72 info_load rfl (by omega) w1 w.heap.size A n c (cells3 l) (HX.out.belowLe HB1.out (Nat.le_refl _)) HB1.out.size (one_cells3 l) (by unfold maxLen; omega) (by omega)
    have HRUN2 := Lib.hid hrun2
    obtain ⟨A2, c2, rfl, hr2⟩ := own_reads ho2
    have HR2 := Lib.hid hr2
    clear hrun2 ho2 hr2
    go_wp2_with (first | (at_builtin; refine wpList_app _ w2 _ rfl _ _ _ rfl _ _ rfl rfl HRUN2.out ?_))
    clear HRUN2
    have HB2 := Lib.hid (show Below w.heap.size w w2 from step_below hb2 (by repeat' (first | exact Below.refl _ _ | exact HB1.out | refine below_drewN ?_ _ | refine Below.drew ?_ | refine Below.alloc ?_ (by first | omega | (simp; done) | (simp; omega) | (simp [World.setCell]; omega)) _ | refine Below.setCell ?_ (by first | omega | (simp; done) | (simp; omega)) _ | assumption)))
    have hz2 := hb2.size
    try simp only [World.size_alloc, World.drewN, World.drew] at hz2
    clear hb2
    refine (moments_any A2 n c2 _ l _ HR2.out (Nat.le_refl _) hn mx my me HM.out).mono ?_
    rintro en w3 ⟨rfl, hb3⟩
    have HB3 := Lib.hid (show Below w.heap.size w w3 from step_below hb3 (by repeat' (first | exact Below.refl _ _ | exact HB2.out | refine below_drewN ?_ _ | refine Below.drew ?_ | refine Below.alloc ?_ (by first | omega | (simp; done) | (simp; omega) | (simp [World.setCell]; omega)) _ | refine Below.setCell ?_ (by first | omega | (simp; done) | (simp; omega)) _ | assumption)))
    have hz3 := hb3.size
    try simp only [World.size_alloc, World.drewN, World.drew] at hz3
    clear hb3
    obtain ⟨v4, w4, hrun4, ho4, hb4⟩ := copy_at (P := Try.prog) (w3.heap.size + 1) 72 72 80 _ 3 24 Try.underlying72 info_load rfl (by omega) (w3.alloc (.cells #[.int .i64 mx, .int .i64 my] 51)) (by simp) w.heap.size A n c (cells3 l) (HX.out.belowLe (HB3.out.alloc HB3.out.size _) (Nat.le_refl _)) (HB3.out.alloc HB3.out.size _).size (one_cells3 l) (by unfold maxLen; omega) (by omega)
    have HRUN4 := Lib.hid hrun4
    obtain ⟨A4, c4, rfl, hr4⟩ := own_reads ho4
    have HR4 := Lib.hid hr4
    clear hrun4 ho4 hr4
    go_wp2_with (first | (at_builtin; refine wpList_app _ w4 _ rfl _ _ _ rfl _ _ rfl rfl HRUN4.out ?_))
    clear HRUN4
    have HB4 := Lib.hid (show Below w.heap.size w w4 from step_below hb4 (by repeat' (first | exact Below.refl _ _ | exact HB3.out | refine below_drewN ?_ _ | refine Below.drew ?_ | refine Below.alloc ?_ (by first | omega | (simp; done) | (simp; omega) | (simp [World.setCell]; omega)) _ | refine Below.setCell ?_ (by first | omega | (simp; done) | (simp; omega)) _ | assumption)))
    have K0_4 := Lib.hid (step_blk hb4 (show Blk _ (w3.heap.size) 51 #[.int .i64 (mx), .int .i64 (my)] by repeat' (first | exact Blk.at_ _ (by first | rfl | (simp; done) | (simp; omega)) _ _ | refine Blk.drewN ?_ _ | refine Blk.drew ?_ | refine Blk.alloc ?_ _ | refine Blk.far ?_ (by first | omega | (simp; done) | (simp; omega)) _ | assumption)))
    have hz4 := hb4.size
    try simp only [World.size_alloc, World.drewN, World.drew] at hz4
    clear hb4
    have l0_4 : w3.heap.size < w4.heap.size := K0_4.out.lt
    have z0_0_4 : w4.cell? ⟨w3.heap.size, 0, none⟩ = some (.int .i64 (mx)) := K0_4.out.cell 0
    have z0_1_4 : w4.cell? ⟨w3.heap.size, 1, none⟩ = some (.int .i64 (my)) := K0_4.out.cell 1
    refine (cw_any A4 n c4 _ l axis arm _ HR4.out (Nat.le_refl _) hn x y e HR.out).mono ?_
    rintro en w5 ⟨rfl, hb5⟩
    have HB5 := Lib.hid (show Below w.heap.size w w5 from step_below hb5 (by repeat' (first | exact Below.refl _ _ | exact HB4.out | refine below_drewN ?_ _ | refine Below.drew ?_ | refine Below.alloc ?_ (by first | omega | (simp; done) | (simp; omega) | (simp [World.setCell]; omega)) _ | refine Below.setCell ?_ (by first | omega | (simp; done) | (simp; omega)) _ | assumption)))
    have K0_5 := Lib.hid (step_blk hb5 (show Blk _ (w3.heap.size) 51 #[.int .i64 (mx), .int .i64 (my)] by repeat' (first | exact K0_4.out | exact Blk.at_ _ (by first | rfl | (simp; done) | (simp; omega)) _ _ | refine Blk.drewN ?_ _ | refine Blk.drew ?_ | refine Blk.alloc ?_ _ | refine Blk.far ?_ (by first | omega | (simp; done) | (simp; omega)) _ | assumption)))
    have hz5 := hb5.size
    try simp only [World.size_alloc, World.drewN, World.drew] at hz5
    clear hb5 K0_4 z0_0_4 z0_1_4 l0_4
    have l0_5 : w3.heap.size < w5.heap.size := K0_5.out.lt
    have z0_0_5 : w5.cell? ⟨w3.heap.size, 0, none⟩ = some (.int .i64 (mx)) := K0_5.out.cell 0
    have z0_1_5 : w5.cell? ⟨w3.heap.size, 1, none⟩ = some (.int .i64 (my)) := K0_5.out.cell 1
    go_wp2_with fail
    refine (checkloads_any A n c w.heap.size l _ (HX.out.belowLe (HB5.out.alloc HB5.out.size _) (Nat.le_refl _)) (HB5.out.alloc HB5.out.size _).size hn me HE.out).mono ?_
    rintro e w6 ⟨rfl, hb⟩
    have HB6 := Lib.hid (show Below w.heap.size w w6 from step_below hb (by repeat' (first | exact Below.refl _ _ | exact HB5.out | refine below_drewN ?_ _ | refine Below.drew ?_ | refine Below.alloc ?_ (by first | omega | (simp; done) | (simp; omega) | (simp [World.setCell]; omega)) _ | refine Below.setCell ?_ (by first | omega | (simp; done) | (simp; omega)) _ | assumption)))
    have K0_6 := Lib.hid (step_blk hb (show Blk _ (w3.heap.size) 51 #[.int .i64 (mx), .int .i64 (my)] by repeat' (first | exact K0_5.out | exact Blk.at_ _ (by first | rfl | (simp; done) | (simp; omega)) _ _ | refine Blk.drewN ?_ _ | refine Blk.drew ?_ | refine Blk.alloc ?_ _ | refine Blk.far ?_ (by first | omega | (simp; done) | (simp; omega)) _ | assumption)))
    have K1_6 := Lib.hid (step_blk hb (show Blk _ (w5.heap.size) 23 #[.int .i64 (x), .int .i64 (y)] by repeat' (first | exact K0_5.out | exact Blk.at_ _ (by first | rfl | (simp; done) | (simp; omega)) _ _ | refine Blk.drewN ?_ _ | refine Blk.drew ?_ | refine Blk.alloc ?_ _ | refine Blk.far ?_ (by first | omega | (simp; done) | (simp; omega)) _ | assumption)))
    have hz6 := hb.size
    try simp only [World.size_alloc, World.drewN, World.drew] at hz6
    clear hb K0_5 z0_0_5 z0_1_5 l0_5
    have l0_6 : w3.heap.size < w6.heap.size := K0_6.out.lt
    have z0_0_6 : w6.cell? ⟨w3.heap.size, 0, none⟩ = some (.int .i64 (mx)) := K0_6.out.cell 0
    have z0_1_6 : w6.cell? ⟨w3.heap.size, 1, none⟩ = some (.int .i64 (my)) := K0_6.out.cell 1
    have l1_6 : w5.heap.size < w6.heap.size := K1_6.out.lt
    have z1_0_6 : w6.cell? ⟨w5.heap.size, 0, none⟩ = some (.int .i64 (x)) := K1_6.out.cell 0
    have z1_1_6 : w6.cell? ⟨w5.heap.size, 1, none⟩ = some (.int .i64 (y)) := K1_6.out.cell 1
    have h0 : ¬ me = 0 := by
      intro h0
      have := (loadsErr_ok (HE.out.trans h0)).1
      have := HL.out
      omega
    have e0 : (me != 0) = true := by simpa using h0
    have hm := HM.out
    rw [if_pos (by rw [HE.out]; exact h0)] at hm
    have hr := HR.out
    unfold cwAll at hr
    rw [if_pos (by rw [HE.out]; exact h0), HE.out] at hr
    cases hm
    cases hr
    go_wp2
    go_ret
    exact ⟨rfl, by repeat' (first | exact Below.refl _ _ | exact HB6.out | refine below_drewN ?_ _ | refine Below.drew ?_ | refine Below.alloc ?_ (by first | omega | (simp; done) | (simp; omega) | (simp [World.setCell]; omega)) _ | refine Below.setCell ?_ (by first | omega | (simp; done) | (simp; omega)) _ | assumption)⟩
  · skip
    go_enter Try.func8, Try.ntmps8
    go_wp2_with fail
    refine (awake_any _).mono ?_
    rintro e w1 ⟨rfl, hb⟩
    have HB1 := Lib.hid (show Below w.heap.size w w1 from step_below hb (by repeat' (first | exact Below.refl _ _ | exact HB0.out | refine below_drewN ?_ _ | refine Below.drew ?_ | refine Below.alloc ?_ (by first | omega | (simp; done) | (simp; omega) | (simp [World.setCell]; omega)) _ | refine Below.setCell ?_ (by first | omega | (simp; done) | (simp; omega)) _ | assumption)))
    have hz1 := hb.size
    try simp only [World.size_alloc, World.drewN, World.drew] at hz1
    clear hb
    obtain ⟨v2, w2, hrun2, ho2, hb2⟩ := copy_run (P := Try.prog) 72 72 80 _ 3 24 Try.underlying72 info_load rfl (by omega) w1 w.heap.size A n c (cells3 l) (HX.out.belowLe HB1.out (Nat.le_refl _)) HB1.out.size (one_cells3 l) (by unfold maxLen; omega) (by omega)
    have HRUN2 := Lib.hid hrun2
    obtain ⟨A2, c2, rfl, hr2⟩ := own_reads ho2
    have HR2 := Lib.hid hr2
    clear hrun2 ho2 hr2
    go_wp2_with (first | (at_builtin; refine wpList_app _ w2 _ rfl _ _ _ rfl _ _ rfl rfl HRUN2.out ?_))
    clear HRUN2
    have HB2 := Lib.hid (show Below w.heap.size w w2 from step_below hb2 (by repeat' (first | exact Below.refl _ _ | exact HB1.out | refine below_drewN ?_ _ | refine Below.drew ?_ | refine Below.alloc ?_ (by first | omega | (simp; done) | (simp; omega) | (simp [World.setCell]; omega)) _ | refine Below.setCell ?_ (by first | omega | (simp; done) | (simp; omega)) _ | assumption)))
    have hz2 := hb2.size
    try simp only [World.size_alloc, World.drewN, World.drew] at hz2
    clear hb2
    refine (moments_any A2 n c2 _ l _ HR2.out (Nat.le_refl _) hn mx my me HM.out).mono ?_
    rintro en w3 ⟨rfl, hb3⟩
    have HB3 := Lib.hid (show Below w.heap.size w w3 from step_below hb3 (by repeat' (first | exact Below.refl _ _ | exact HB2.out | refine below_drewN ?_ _ | refine Below.drew ?_ | refine Below.alloc ?_ (by first | omega | (simp; done) | (simp; omega) | (simp [World.setCell]; omega)) _ | refine Below.setCell ?_ (by first | omega | (simp; done) | (simp; omega)) _ | assumption)))
    have hz3 := hb3.size
    try simp only [World.size_alloc, World.drewN, World.drew] at hz3
    clear hb3
    obtain ⟨v4, w4, hrun4, ho4, hb4⟩ := copy_at (P := Try.prog) (w3.heap.size + 1) 72 72 80 _ 3 24 Try.underlying72 info_load rfl (by omega) (w3.alloc (.cells #[.int .i64 mx, .int .i64 my] 51)) (by simp) w.heap.size A n c (cells3 l) (HX.out.belowLe (HB3.out.alloc HB3.out.size _) (Nat.le_refl _)) (HB3.out.alloc HB3.out.size _).size (one_cells3 l) (by unfold maxLen; omega) (by omega)
    have HRUN4 := Lib.hid hrun4
    obtain ⟨A4, c4, rfl, hr4⟩ := own_reads ho4
    have HR4 := Lib.hid hr4
    clear hrun4 ho4 hr4
    go_wp2_with (first | (at_builtin; refine wpList_app _ w4 _ rfl _ _ _ rfl _ _ rfl rfl HRUN4.out ?_))
    clear HRUN4
    have HB4 := Lib.hid (show Below w.heap.size w w4 from step_below hb4 (by repeat' (first | exact Below.refl _ _ | exact HB3.out | refine below_drewN ?_ _ | refine Below.drew ?_ | refine Below.alloc ?_ (by first | omega | (simp; done) | (simp; omega) | (simp [World.setCell]; omega)) _ | refine Below.setCell ?_ (by first | omega | (simp; done) | (simp; omega)) _ | assumption)))
    have K0_4 := Lib.hid (step_blk hb4 (show Blk _ (w3.heap.size) 51 #[.int .i64 (mx), .int .i64 (my)] by repeat' (first | exact Blk.at_ _ (by first | rfl | (simp; done) | (simp; omega)) _ _ | refine Blk.drewN ?_ _ | refine Blk.drew ?_ | refine Blk.alloc ?_ _ | refine Blk.far ?_ (by first | omega | (simp; done) | (simp; omega)) _ | assumption)))
    have hz4 := hb4.size
    try simp only [World.size_alloc, World.drewN, World.drew] at hz4
    clear hb4
    have l0_4 : w3.heap.size < w4.heap.size := K0_4.out.lt
    have z0_0_4 : w4.cell? ⟨w3.heap.size, 0, none⟩ = some (.int .i64 (mx)) := K0_4.out.cell 0
    have z0_1_4 : w4.cell? ⟨w3.heap.size, 1, none⟩ = some (.int .i64 (my)) := K0_4.out.cell 1
    refine (cw_any A4 n c4 _ l axis arm _ HR4.out (Nat.le_refl _) hn x y e HR.out).mono ?_
    rintro en w5 ⟨rfl, hb5⟩
    have HB5 := Lib.hid (show Below w.heap.size w w5 from step_below hb5 (by repeat' (first | exact Below.refl _ _ | exact HB4.out | refine below_drewN ?_ _ | refine Below.drew ?_ | refine Below.alloc ?_ (by first | omega | (simp; done) | (simp; omega) | (simp [World.setCell]; omega)) _ | refine Below.setCell ?_ (by first | omega | (simp; done) | (simp; omega)) _ | assumption)))
    have K0_5 := Lib.hid (step_blk hb5 (show Blk _ (w3.heap.size) 51 #[.int .i64 (mx), .int .i64 (my)] by repeat' (first | exact K0_4.out | exact Blk.at_ _ (by first | rfl | (simp; done) | (simp; omega)) _ _ | refine Blk.drewN ?_ _ | refine Blk.drew ?_ | refine Blk.alloc ?_ _ | refine Blk.far ?_ (by first | omega | (simp; done) | (simp; omega)) _ | assumption)))
    have hz5 := hb5.size
    try simp only [World.size_alloc, World.drewN, World.drew] at hz5
    clear hb5 K0_4 z0_0_4 z0_1_4 l0_4
    have l0_5 : w3.heap.size < w5.heap.size := K0_5.out.lt
    have z0_0_5 : w5.cell? ⟨w3.heap.size, 0, none⟩ = some (.int .i64 (mx)) := K0_5.out.cell 0
    have z0_1_5 : w5.cell? ⟨w3.heap.size, 1, none⟩ = some (.int .i64 (my)) := K0_5.out.cell 1
    go_wp2_with fail
    refine (checkloads_any A n c w.heap.size l _ (HX.out.belowLe (HB5.out.alloc HB5.out.size _) (Nat.le_refl _)) (HB5.out.alloc HB5.out.size _).size hn me HE.out).mono ?_
    rintro e w6 ⟨rfl, hb⟩
    have HB6 := Lib.hid (show Below w.heap.size w w6 from step_below hb (by repeat' (first | exact Below.refl _ _ | exact HB5.out | refine below_drewN ?_ _ | refine Below.drew ?_ | refine Below.alloc ?_ (by first | omega | (simp; done) | (simp; omega) | (simp [World.setCell]; omega)) _ | refine Below.setCell ?_ (by first | omega | (simp; done) | (simp; omega)) _ | assumption)))
    have K0_6 := Lib.hid (step_blk hb (show Blk _ (w3.heap.size) 51 #[.int .i64 (mx), .int .i64 (my)] by repeat' (first | exact K0_5.out | exact Blk.at_ _ (by first | rfl | (simp; done) | (simp; omega)) _ _ | refine Blk.drewN ?_ _ | refine Blk.drew ?_ | refine Blk.alloc ?_ _ | refine Blk.far ?_ (by first | omega | (simp; done) | (simp; omega)) _ | assumption)))
    have K1_6 := Lib.hid (step_blk hb (show Blk _ (w5.heap.size) 23 #[.int .i64 (x), .int .i64 (y)] by repeat' (first | exact K0_5.out | exact Blk.at_ _ (by first | rfl | (simp; done) | (simp; omega)) _ _ | refine Blk.drewN ?_ _ | refine Blk.drew ?_ | refine Blk.alloc ?_ _ | refine Blk.far ?_ (by first | omega | (simp; done) | (simp; omega)) _ | assumption)))
    have hz6 := hb.size
    try simp only [World.size_alloc, World.drewN, World.drew] at hz6
    clear hb K0_5 z0_0_5 z0_1_5 l0_5
    have l0_6 : w3.heap.size < w6.heap.size := K0_6.out.lt
    have z0_0_6 : w6.cell? ⟨w3.heap.size, 0, none⟩ = some (.int .i64 (mx)) := K0_6.out.cell 0
    have z0_1_6 : w6.cell? ⟨w3.heap.size, 1, none⟩ = some (.int .i64 (my)) := K0_6.out.cell 1
    have l1_6 : w5.heap.size < w6.heap.size := K1_6.out.lt
    have z1_0_6 : w6.cell? ⟨w5.heap.size, 0, none⟩ = some (.int .i64 (x)) := K1_6.out.cell 0
    have z1_1_6 : w6.cell? ⟨w5.heap.size, 1, none⟩ = some (.int .i64 (y)) := K1_6.out.cell 1
    by_cases h0 : me = 0
    rotate_left
    · have e0 : (me != 0) = true := by simpa using h0
      have hm := HM.out
      rw [if_pos (by rw [HE.out]; exact h0)] at hm
      have hr := HR.out
      unfold cwAll at hr
      rw [if_pos (by rw [HE.out]; exact h0), HE.out] at hr
      cases hm
      cases hr
      go_wp2
      go_ret
      exact ⟨rfl, by repeat' (first | exact Below.refl _ _ | exact HB6.out | refine below_drewN ?_ _ | refine Below.drew ?_ | refine Below.alloc ?_ (by first | omega | (simp; done) | (simp; omega) | (simp [World.setCell]; omega)) _ | refine Below.setCell ?_ (by first | omega | (simp; done) | (simp; omega)) _ | assumption)⟩
    subst h0
    have hm := HM.out
    rw [if_neg (by rw [HE.out]; simp)] at hm
    have hmom : momF l = (mx, my) := by have := congrArg (fun q => q.1) hm; simpa using this
    have hr := HR.out
    unfold cwAll at hr
    rw [if_neg (by rw [HE.out]; simp)] at hr
    have HRC := Lib.hid (rcw_any A n c w.heap.size l axis arm)
    have HMO := Lib.hid (rmoments_any A n c w.heap.size l)
    have HMOM := Lib.hid hmom
    have HR2 := Lib.hid hr
    clear hm hmom hr
    go_wp2_with fail
    refine (HRC.out _ (HX.out.belowLe HB6.out (Nat.le_refl _)) HB6.out.size HE.out x y e HR2.out).mono ?_
    rintro e w7 ⟨rfl, hb⟩
    have HB7 := Lib.hid (show Below w.heap.size w w7 from step_below hb (by repeat' (first | exact Below.refl _ _ | exact HB6.out | refine below_drewN ?_ _ | refine Below.drew ?_ | refine Below.alloc ?_ (by first | omega | (simp; done) | (simp; omega) | (simp [World.setCell]; omega)) _ | refine Below.setCell ?_ (by first | omega | (simp; done) | (simp; omega)) _ | assumption)))
    have K0_7 := Lib.hid (step_blk hb (show Blk _ (w3.heap.size) 51 #[.int .i64 (mx), .int .i64 (my)] by repeat' (first | exact K0_6.out | exact K1_6.out | exact Blk.at_ _ (by first | rfl | (simp; done) | (simp; omega)) _ _ | refine Blk.drewN ?_ _ | refine Blk.drew ?_ | refine Blk.alloc ?_ _ | refine Blk.far ?_ (by first | omega | (simp; done) | (simp; omega)) _ | assumption)))
    have K1_7 := Lib.hid (step_blk hb (show Blk _ (w5.heap.size) 23 #[.int .i64 (x), .int .i64 (y)] by repeat' (first | exact K0_6.out | exact K1_6.out | exact Blk.at_ _ (by first | rfl | (simp; done) | (simp; omega)) _ _ | refine Blk.drewN ?_ _ | refine Blk.drew ?_ | refine Blk.alloc ?_ _ | refine Blk.far ?_ (by first | omega | (simp; done) | (simp; omega)) _ | assumption)))
    have hz7 := hb.size
    try simp only [World.size_alloc, World.drewN, World.drew] at hz7
    clear hb K0_6 K1_6 z0_0_6 z0_1_6 l0_6 z1_0_6 z1_1_6 l1_6
    have l0_7 : w3.heap.size < w7.heap.size := K0_7.out.lt
    have z0_0_7 : w7.cell? ⟨w3.heap.size, 0, none⟩ = some (.int .i64 (mx)) := K0_7.out.cell 0
    have z0_1_7 : w7.cell? ⟨w3.heap.size, 1, none⟩ = some (.int .i64 (my)) := K0_7.out.cell 1
    have l1_7 : w5.heap.size < w7.heap.size := K1_7.out.lt
    have z1_0_7 : w7.cell? ⟨w5.heap.size, 0, none⟩ = some (.int .i64 (x)) := K1_7.out.cell 0
    have z1_1_7 : w7.cell? ⟨w5.heap.size, 1, none⟩ = some (.int .i64 (y)) := K1_7.out.cell 1
    go_wp2
    refine Fx.regionW (fun W f w' => Below W.heap.size W w') (by kernel_rfl) (by kernel_rfl) ?_ ?_
    · intro f hf0
      exact below_drewN (Below.refl _ _) 1
    repeat (first
      | (refine Fx.skip_ (by rfl) (fun f w h => h) ?_; simp only [Act.put, List.setIfInBounds_toArray, List.set_cons_zero, List.set_cons_succ])
      | (refine Fx.val_ ?_ (by rfl) ?_ (fun f w h => h) ?_
         rotate_left
         · intro f w' hD hk
           have hb := hD
           have y0_0 : w'.cell? ⟨w3.heap.size, 0, none⟩ = some (.int .i64 (mx)) := (step_blk hb (show Blk _ (w3.heap.size) 51 #[.int .i64 (mx), .int .i64 (my)] by repeat' (first | exact K0_7.out | exact K1_7.out | exact Blk.at_ _ (by first | rfl | (simp; done) | (simp; omega)) _ _ | refine Blk.drewN ?_ _ | refine Blk.drew ?_ | refine Blk.alloc ?_ _ | refine Blk.far ?_ (by first | omega | (simp; done) | (simp; omega)) _ | assumption))).cell 0
           have y0_1 : w'.cell? ⟨w3.heap.size, 1, none⟩ = some (.int .i64 (my)) := (step_blk hb (show Blk _ (w3.heap.size) 51 #[.int .i64 (mx), .int .i64 (my)] by repeat' (first | exact K0_7.out | exact K1_7.out | exact Blk.at_ _ (by first | rfl | (simp; done) | (simp; omega)) _ _ | refine Blk.drewN ?_ _ | refine Blk.drew ?_ | refine Blk.alloc ?_ _ | refine Blk.far ?_ (by first | omega | (simp; done) | (simp; omega)) _ | assumption))).cell 1
           have y1_0 : w'.cell? ⟨w5.heap.size, 0, none⟩ = some (.int .i64 (x)) := (step_blk hb (show Blk _ (w5.heap.size) 23 #[.int .i64 (x), .int .i64 (y)] by repeat' (first | exact K0_7.out | exact K1_7.out | exact Blk.at_ _ (by first | rfl | (simp; done) | (simp; omega)) _ _ | refine Blk.drewN ?_ _ | refine Blk.drew ?_ | refine Blk.alloc ?_ _ | refine Blk.far ?_ (by first | omega | (simp; done) | (simp; omega)) _ | assumption))).cell 0
           have y1_1 : w'.cell? ⟨w5.heap.size, 1, none⟩ = some (.int .i64 (y)) := (step_blk hb (show Blk _ (w5.heap.size) 23 #[.int .i64 (x), .int .i64 (y)] by repeat' (first | exact K0_7.out | exact K1_7.out | exact Blk.at_ _ (by first | rfl | (simp; done) | (simp; omega)) _ _ | refine Blk.drewN ?_ _ | refine Blk.drew ?_ | refine Blk.alloc ?_ _ | refine Blk.far ?_ (by first | omega | (simp; done) | (simp; omega)) _ | assumption))).cell 1
           have y2_0 : w'.cell? ⟨w7.heap.size, 0, none⟩ = some (.int .i64 (x)) := (step_blk hb (show Blk _ (w7.heap.size) 23 #[.int .i64 (x), .int .i64 (y)] by repeat' (first | exact K0_7.out | exact K1_7.out | exact Blk.at_ _ (by first | rfl | (simp; done) | (simp; omega)) _ _ | refine Blk.drewN ?_ _ | refine Blk.drew ?_ | refine Blk.alloc ?_ _ | refine Blk.far ?_ (by first | omega | (simp; done) | (simp; omega)) _ | assumption))).cell 0
           have y2_1 : w'.cell? ⟨w7.heap.size, 1, none⟩ = some (.int .i64 (y)) := (step_blk hb (show Blk _ (w7.heap.size) 23 #[.int .i64 (x), .int .i64 (y)] by repeat' (first | exact K0_7.out | exact K1_7.out | exact Blk.at_ _ (by first | rfl | (simp; done) | (simp; omega)) _ _ | refine Blk.drewN ?_ _ | refine Blk.drew ?_ | refine Blk.alloc ?_ _ | refine Blk.far ?_ (by first | omega | (simp; done) | (simp; omega)) _ | assumption))).cell 1
           clear hk hD hb
           go_simp
           try rfl
         simp only [Act.put, List.setIfInBounds_toArray, List.set_cons_zero, List.set_cons_succ]))
    refine Fx.call_ (.agg #[.int .i64 mx, .int .i64 my]) ?_ ?_ (by rfl) ?_ ?_ ?_
    rotate_left 2
    · intro w'
      go_simp
      refine ⟨?_, ?_⟩ <;> rfl
    · intro f w' hD hk
      exact (HMO.out _ (HX.out.belowLe ((HB7.out.alloc HB7.out.size _).trans (hD.mono (HB7.out.alloc HB7.out.size _).size)) (Nat.le_refl _)) (Nat.le_trans (HB7.out.alloc HB7.out.size _).size hD.size) HE.out mx my HMOM.out).mono fun e w'' ⟨he, hw⟩ => ⟨he, step_below hw hD⟩
    simp only [Act.put, List.setIfInBounds_toArray, List.set_cons_zero, List.set_cons_succ]
    repeat (first
      | (refine Fx.skip_ (by rfl) (fun f w h => h) ?_; simp only [Act.put, List.setIfInBounds_toArray, List.set_cons_zero, List.set_cons_succ])
      | (refine Fx.val_ ?_ (by rfl) ?_ (fun f w h => h) ?_
         rotate_left
         · intro f w' hD hk
           have hb := hD
           have y0_0 : w'.cell? ⟨w3.heap.size, 0, none⟩ = some (.int .i64 (mx)) := (step_blk hb (show Blk _ (w3.heap.size) 51 #[.int .i64 (mx), .int .i64 (my)] by repeat' (first | exact K0_7.out | exact K1_7.out | exact Blk.at_ _ (by first | rfl | (simp; done) | (simp; omega)) _ _ | refine Blk.drewN ?_ _ | refine Blk.drew ?_ | refine Blk.alloc ?_ _ | refine Blk.far ?_ (by first | omega | (simp; done) | (simp; omega)) _ | assumption))).cell 0
           have y0_1 : w'.cell? ⟨w3.heap.size, 1, none⟩ = some (.int .i64 (my)) := (step_blk hb (show Blk _ (w3.heap.size) 51 #[.int .i64 (mx), .int .i64 (my)] by repeat' (first | exact K0_7.out | exact K1_7.out | exact Blk.at_ _ (by first | rfl | (simp; done) | (simp; omega)) _ _ | refine Blk.drewN ?_ _ | refine Blk.drew ?_ | refine Blk.alloc ?_ _ | refine Blk.far ?_ (by first | omega | (simp; done) | (simp; omega)) _ | assumption))).cell 1
           have y1_0 : w'.cell? ⟨w5.heap.size, 0, none⟩ = some (.int .i64 (x)) := (step_blk hb (show Blk _ (w5.heap.size) 23 #[.int .i64 (x), .int .i64 (y)] by repeat' (first | exact K0_7.out | exact K1_7.out | exact Blk.at_ _ (by first | rfl | (simp; done) | (simp; omega)) _ _ | refine Blk.drewN ?_ _ | refine Blk.drew ?_ | refine Blk.alloc ?_ _ | refine Blk.far ?_ (by first | omega | (simp; done) | (simp; omega)) _ | assumption))).cell 0
           have y1_1 : w'.cell? ⟨w5.heap.size, 1, none⟩ = some (.int .i64 (y)) := (step_blk hb (show Blk _ (w5.heap.size) 23 #[.int .i64 (x), .int .i64 (y)] by repeat' (first | exact K0_7.out | exact K1_7.out | exact Blk.at_ _ (by first | rfl | (simp; done) | (simp; omega)) _ _ | refine Blk.drewN ?_ _ | refine Blk.drew ?_ | refine Blk.alloc ?_ _ | refine Blk.far ?_ (by first | omega | (simp; done) | (simp; omega)) _ | assumption))).cell 1
           have y2_0 : w'.cell? ⟨w7.heap.size, 0, none⟩ = some (.int .i64 (x)) := (step_blk hb (show Blk _ (w7.heap.size) 23 #[.int .i64 (x), .int .i64 (y)] by repeat' (first | exact K0_7.out | exact K1_7.out | exact Blk.at_ _ (by first | rfl | (simp; done) | (simp; omega)) _ _ | refine Blk.drewN ?_ _ | refine Blk.drew ?_ | refine Blk.alloc ?_ _ | refine Blk.far ?_ (by first | omega | (simp; done) | (simp; omega)) _ | assumption))).cell 0
           have y2_1 : w'.cell? ⟨w7.heap.size, 1, none⟩ = some (.int .i64 (y)) := (step_blk hb (show Blk _ (w7.heap.size) 23 #[.int .i64 (x), .int .i64 (y)] by repeat' (first | exact K0_7.out | exact K1_7.out | exact Blk.at_ _ (by first | rfl | (simp; done) | (simp; omega)) _ _ | refine Blk.drewN ?_ _ | refine Blk.drew ?_ | refine Blk.alloc ?_ _ | refine Blk.far ?_ (by first | omega | (simp; done) | (simp; omega)) _ | assumption))).cell 1
           clear hk hD hb
           go_simp
           try rfl
         simp only [Act.put, List.setIfInBounds_toArray, List.set_cons_zero, List.set_cons_succ]))
    refine Fx.nil_ ?_
    intro f w8 hall hb
    try clear hall
    have HB8 := Lib.hid (show Below w.heap.size w w8 from step_below hb (by repeat' (first | exact Below.refl _ _ | exact HB7.out | refine below_drewN ?_ _ | refine Below.drew ?_ | refine Below.alloc ?_ (by first | omega | (simp; done) | (simp; omega) | (simp [World.setCell]; omega)) _ | refine Below.setCell ?_ (by first | omega | (simp; done) | (simp; omega)) _ | assumption)))
    have K0_8 := Lib.hid (step_blk hb (show Blk _ (w3.heap.size) 51 #[.int .i64 (mx), .int .i64 (my)] by repeat' (first | exact K0_7.out | exact K1_7.out | exact Blk.at_ _ (by first | rfl | (simp; done) | (simp; omega)) _ _ | refine Blk.drewN ?_ _ | refine Blk.drew ?_ | refine Blk.alloc ?_ _ | refine Blk.far ?_ (by first | omega | (simp; done) | (simp; omega)) _ | assumption)))
    have K1_8 := Lib.hid (step_blk hb (show Blk _ (w5.heap.size) 23 #[.int .i64 (x), .int .i64 (y)] by repeat' (first | exact K0_7.out | exact K1_7.out | exact Blk.at_ _ (by first | rfl | (simp; done) | (simp; omega)) _ _ | refine Blk.drewN ?_ _ | refine Blk.drew ?_ | refine Blk.alloc ?_ _ | refine Blk.far ?_ (by first | omega | (simp; done) | (simp; omega)) _ | assumption)))
    have K2_8 := Lib.hid (step_blk hb (show Blk _ (w7.heap.size) 23 #[.int .i64 (x), .int .i64 (y)] by repeat' (first | exact K0_7.out | exact K1_7.out | exact Blk.at_ _ (by first | rfl | (simp; done) | (simp; omega)) _ _ | refine Blk.drewN ?_ _ | refine Blk.drew ?_ | refine Blk.alloc ?_ _ | refine Blk.far ?_ (by first | omega | (simp; done) | (simp; omega)) _ | assumption)))
    have hz8 := hb.size
    try simp only [World.size_alloc, World.drewN, World.drew] at hz8
    clear hb K0_7 K1_7 z0_0_7 z0_1_7 l0_7 z1_0_7 z1_1_7 l1_7
    have l0_8 : w3.heap.size < w8.heap.size := K0_8.out.lt
    have z0_0_8 : w8.cell? ⟨w3.heap.size, 0, none⟩ = some (.int .i64 (mx)) := K0_8.out.cell 0
    have z0_1_8 : w8.cell? ⟨w3.heap.size, 1, none⟩ = some (.int .i64 (my)) := K0_8.out.cell 1
    have l1_8 : w5.heap.size < w8.heap.size := K1_8.out.lt
    have z1_0_8 : w8.cell? ⟨w5.heap.size, 0, none⟩ = some (.int .i64 (x)) := K1_8.out.cell 0
    have z1_1_8 : w8.cell? ⟨w5.heap.size, 1, none⟩ = some (.int .i64 (y)) := K1_8.out.cell 1
    have l2_8 : w7.heap.size < w8.heap.size := K2_8.out.lt
    have z2_0_8 : w8.cell? ⟨w7.heap.size, 0, none⟩ = some (.int .i64 (x)) := K2_8.out.cell 0
    have z2_1_8 : w8.cell? ⟨w7.heap.size, 1, none⟩ = some (.int .i64 (y)) := K2_8.out.cell 1
    by_cases h0 : e = 0
    rotate_left
    · have e0 : (e != 0) = true := by simpa using h0
      go_wp2
      go_ret
      exact ⟨rfl, by repeat' (first | exact Below.refl _ _ | exact HB8.out | refine below_drewN ?_ _ | refine Below.drew ?_ | refine Below.alloc ?_ (by first | omega | (simp; done) | (simp; omega) | (simp [World.setCell]; omega)) _ | refine Below.setCell ?_ (by first | omega | (simp; done) | (simp; omega)) _ | assumption)⟩
    subst h0
    by_cases hy : y = 1
    rotate_left
    · have e1 : (y != 1) = true := by simpa using hy
      go_wp2
      go_ret
      exact ⟨rfl, by repeat' (first | exact Below.refl _ _ | exact HB8.out | refine below_drewN ?_ _ | refine Below.drew ?_ | refine Below.alloc ?_ (by first | omega | (simp; done) | (simp; omega) | (simp [World.setCell]; omega)) _ | refine Below.setCell ?_ (by first | omega | (simp; done) | (simp; omega)) _ | assumption)⟩
    subst hy
    by_cases hx7 : 10000000 < x
    · go_wp2
      go_ret
      exact ⟨rfl, by repeat' (first | exact Below.refl _ _ | exact HB8.out | refine below_drewN ?_ _ | refine Below.drew ?_ | refine Below.alloc ?_ (by first | omega | (simp; done) | (simp; omega) | (simp [World.setCell]; omega)) _ | refine Below.setCell ?_ (by first | omega | (simp; done) | (simp; omega)) _ | assumption)⟩
    by_cases h12 : (12 : Int) ≤ (n : Int)
    · go_wp2
      go_ret
      exact ⟨rfl, by repeat' (first | exact Below.refl _ _ | exact HB8.out | refine below_drewN ?_ _ | refine Below.drew ?_ | refine Below.alloc ?_ (by first | omega | (simp; done) | (simp; omega) | (simp [World.setCell]; omega)) _ | refine Below.setCell ?_ (by first | omega | (simp; done) | (simp; omega)) _ | assumption)⟩
    obtain ⟨hax, ha1, ha2, ha3, hcw⟩ := cwF_ok HR2.out
    rw [HMOM.out] at hcw
    obtain ⟨hbal, hx0⟩ := balanced ha3 hcw
    have HBAL := Lib.hid hbal
    obtain ⟨v9, w9, hrun9, ho9, hb9⟩ := copy_run (P := Try.prog) 72 72 80 _ 3 24 Try.underlying72 info_load rfl (by omega) w8 w.heap.size A n c (cells3 l) (HX.out.belowLe HB8.out (Nat.le_refl _)) HB8.out.size (one_cells3 l) (by unfold maxLen; omega) (by omega)
    have HRUN9 := Lib.hid hrun9
    have HO9 := Lib.hid ho9
    clear hrun9 ho9 hcw hbal
    have q0 := z1_0_8
    have q1 := z1_1_8
    have HB9 := Lib.hid (show Below w.heap.size w w9 from step_below hb9 (by repeat' (first | exact Below.refl _ _ | exact HB8.out | refine below_drewN ?_ _ | refine Below.drew ?_ | refine Below.alloc ?_ (by first | omega | (simp; done) | (simp; omega) | (simp [World.setCell]; omega)) _ | refine Below.setCell ?_ (by first | omega | (simp; done) | (simp; omega)) _ | assumption)))
    have K0_9 := Lib.hid (step_blk hb9 (show Blk _ (w3.heap.size) 51 #[.int .i64 (mx), .int .i64 (my)] by repeat' (first | exact K0_8.out | exact K1_8.out | exact K2_8.out | exact Blk.at_ _ (by first | rfl | (simp; done) | (simp; omega)) _ _ | refine Blk.drewN ?_ _ | refine Blk.drew ?_ | refine Blk.alloc ?_ _ | refine Blk.far ?_ (by first | omega | (simp; done) | (simp; omega)) _ | assumption)))
    have K1_9 := Lib.hid (step_blk hb9 (show Blk _ (w5.heap.size) 23 #[.int .i64 (x), .int .i64 (1)] by repeat' (first | exact K0_8.out | exact K1_8.out | exact K2_8.out | exact Blk.at_ _ (by first | rfl | (simp; done) | (simp; omega)) _ _ | refine Blk.drewN ?_ _ | refine Blk.drew ?_ | refine Blk.alloc ?_ _ | refine Blk.far ?_ (by first | omega | (simp; done) | (simp; omega)) _ | assumption)))
    have K2_9 := Lib.hid (step_blk hb9 (show Blk _ (w7.heap.size) 23 #[.int .i64 (x), .int .i64 (1)] by repeat' (first | exact K0_8.out | exact K1_8.out | exact K2_8.out | exact Blk.at_ _ (by first | rfl | (simp; done) | (simp; omega)) _ _ | refine Blk.drewN ?_ _ | refine Blk.drew ?_ | refine Blk.alloc ?_ _ | refine Blk.far ?_ (by first | omega | (simp; done) | (simp; omega)) _ | assumption)))
    have hz9 := hb9.size
    try simp only [World.size_alloc, World.drewN, World.drew] at hz9
    clear hb9 K0_8 K1_8 K2_8 z0_0_8 z0_1_8 l0_8 z1_0_8 z1_1_8 l1_8 z2_0_8 z2_1_8 l2_8
    have l0_9 : w3.heap.size < w9.heap.size := K0_9.out.lt
    have z0_0_9 : w9.cell? ⟨w3.heap.size, 0, none⟩ = some (.int .i64 (mx)) := K0_9.out.cell 0
    have z0_1_9 : w9.cell? ⟨w3.heap.size, 1, none⟩ = some (.int .i64 (my)) := K0_9.out.cell 1
    have l1_9 : w5.heap.size < w9.heap.size := K1_9.out.lt
    have z1_0_9 : w9.cell? ⟨w5.heap.size, 0, none⟩ = some (.int .i64 (x)) := K1_9.out.cell 0
    have z1_1_9 : w9.cell? ⟨w5.heap.size, 1, none⟩ = some (.int .i64 (1)) := K1_9.out.cell 1
    have l2_9 : w7.heap.size < w9.heap.size := K2_9.out.lt
    have z2_0_9 : w9.cell? ⟨w7.heap.size, 0, none⟩ = some (.int .i64 (x)) := K2_9.out.cell 0
    have z2_1_9 : w9.cell? ⟨w7.heap.size, 1, none⟩ = some (.int .i64 (1)) := K2_9.out.cell 1
    obtain ⟨A9, c9, rfl, -⟩ := own_reads HO9.out
    have hz9 := HB9.out.size
    have hz8 := HB8.out.size
    obtain ⟨i0, hi0, hz0', hz1', hz2'⟩ := info_parts info_load
    have HI0 := Lib.hid hi0
    have HZ0 := Lib.hid hz0'
    have HZ1 := Lib.hid hz1'
    have HZ2 := Lib.hid hz2'
    clear hi0 hz0' hz1' hz2'
    have hln := HL.out
    have hs1 : loadsErr (l ++ [(x, arm, 0)]) = 0 := loads_more HE.out (by omega) (by unfold loadErr; rw [if_pos (by simp only; omega)])
    have hs2 : loadsErr (l ++ [(x, 0, arm)]) = 0 := loads_more HE.out (by omega) (by unfold loadErr; rw [if_pos (by simp only; omega)])
    have HS1 := Lib.hid hs1
    have HS2 := Lib.hid hs2
    clear hs1 hs2
    rcases hax with rfl | rfl
    · skip
      have hbal := HBAL.out
      rw [if_pos rfl] at hbal
      obtain ⟨W, hW⟩ : ∃ W, W = w9.alloc (.cells #[.int .i64 x, .int .i64 arm, .int .i64 0] 80) := ⟨_, rfl⟩
      have ho1 : W.ownsRow w8.heap.size 80 3 (.slice A9 n c9) n (cells3 l) := by rw [hW]; exact HO9.out.alloc _
      have hnb : Blk W w9.heap.size 80 #[.int .i64 x, .int .i64 arm, .int .i64 0] := by rw [hW]; exact Blk.new _ _ _
      have hsz : W.heap.size = w9.heap.size + 1 := by rw [hW]; simp
      obtain ⟨v10, w10, hrun, ho10, hg10, -⟩ := run_append_any (P := Try.prog) W w8.heap.size 72 72 80 i0 _ 3 24 Try.underlying72 HI0.out HZ0.out HZ1.out HZ2.out rfl (by omega) (.slice A9 n c9) n (cells3 l) ho1 W.heap.size (some ⟨w9.heap.size, 0, none⟩) 1 1 [.int .i64 x, .int .i64 arm, .int .i64 0] (Blk.reads hnb rfl) (by simp [Value.oneCell']) (by unfold maxLen; omega) (by omega) (by omega)
      rw [hW] at hrun
      have HRUN10 := Lib.hid hrun
      have hb10 : Below w.heap.size w w10 := (HB9.out.alloc HB9.out.size (.cells #[.int .i64 x, .int .i64 arm, .int .i64 0] 80)).grown (hW ▸ hg10) (by simp; omega) (fun k hk => by have := (own_lt HO9.out hk).1; omega)
      have ho11 : w10.ownsRow w8.heap.size 80 3 v10 (n + 1) (cells3 (l ++ [(x, arm, 0)])) := by rw [cells3_append]; exact ho10
      obtain ⟨A10, c10, rfl, hr10⟩ := own_reads ho11
      have HR10 := Lib.hid hr10
      clear hrun hW ho1 hnb hsz ho10 hg10 ho11 hr10
      go_wp2_with (first | (at_builtin; refine wpList_app _ w9 _ rfl (.tmp 112) (.tmp 113) _ rfl _ _ rfl rfl HRUN9.out ?_) | (at_builtin; refine wpList_app _ w10 _ rfl (.tmp 117) (.tmp 122) _ rfl _ _ rfl rfl HRUN10.out ?_))
      have hm2 : (if loadsErr (l ++ [(x, arm, 0)]) ≠ 0 then ((0, 0), loadsErr (l ++ [(x, arm, 0)])) else (momF (l ++ [(x, arm, 0)]), 0)) = ((0, my), 0) := by
        rw [if_neg (show ¬ loadsErr (l ++ [(x, arm, 0)]) ≠ 0 by rw [HS1.out]; simp), momF_snoc, HMOM.out]
        simp only [hbal]
        congr 2
        · omega
        · omega
      have HM2 := Lib.hid hm2
      clear hm2 hbal
      have hzz := hb10.size
      have HB10 := Lib.hid hb10
      clear hb10
      go_wp2_with fail
      refine (moments_any A10 (n + 1) c10 _ (l ++ [(x, arm, 0)]) _ HR10.out (Nat.le_refl _) (by omega) (0) (my) 0 HM2.out).mono ?_
      rintro e w11 ⟨rfl, hb⟩
      have HB11 := Lib.hid (show Below w.heap.size w w11 from step_below hb (by repeat' (first | exact Below.refl _ _ | exact HB10.out | refine below_drewN ?_ _ | refine Below.drew ?_ | refine Below.alloc ?_ (by first | omega | (simp; done) | (simp; omega) | (simp [World.setCell]; omega)) _ | refine Below.setCell ?_ (by first | omega | (simp; done) | (simp; omega)) _ | assumption)))
      have hz11 := hb.size
      try simp only [World.size_alloc, World.drewN, World.drew] at hz11
      clear hb
      go_wp2
      go_ret
      exact ⟨rfl, by repeat' (first | exact Below.refl _ _ | exact HB11.out | refine below_drewN ?_ _ | refine Below.drew ?_ | refine Below.alloc ?_ (by first | omega | (simp; done) | (simp; omega) | (simp [World.setCell]; omega)) _ | refine Below.setCell ?_ (by first | omega | (simp; done) | (simp; omega)) _ | assumption)⟩
    · skip
      have hbal := HBAL.out
      rw [if_neg (by decide)] at hbal
      obtain ⟨W, hW⟩ : ∃ W, W = w9.alloc (.cells #[.int .i64 x, .int .i64 0, .int .i64 arm] 80) := ⟨_, rfl⟩
      have ho1 : W.ownsRow w8.heap.size 80 3 (.slice A9 n c9) n (cells3 l) := by rw [hW]; exact HO9.out.alloc _
      have hnb : Blk W w9.heap.size 80 #[.int .i64 x, .int .i64 0, .int .i64 arm] := by rw [hW]; exact Blk.new _ _ _
      have hsz : W.heap.size = w9.heap.size + 1 := by rw [hW]; simp
      obtain ⟨v10, w10, hrun, ho10, hg10, -⟩ := run_append_any (P := Try.prog) W w8.heap.size 72 72 80 i0 _ 3 24 Try.underlying72 HI0.out HZ0.out HZ1.out HZ2.out rfl (by omega) (.slice A9 n c9) n (cells3 l) ho1 W.heap.size (some ⟨w9.heap.size, 0, none⟩) 1 1 [.int .i64 x, .int .i64 0, .int .i64 arm] (Blk.reads hnb rfl) (by simp [Value.oneCell']) (by unfold maxLen; omega) (by omega) (by omega)
      rw [hW] at hrun
      have HRUN10 := Lib.hid hrun
      have hb10 : Below w.heap.size w w10 := (HB9.out.alloc HB9.out.size (.cells #[.int .i64 x, .int .i64 0, .int .i64 arm] 80)).grown (hW ▸ hg10) (by simp; omega) (fun k hk => by have := (own_lt HO9.out hk).1; omega)
      have ho11 : w10.ownsRow w8.heap.size 80 3 v10 (n + 1) (cells3 (l ++ [(x, 0, arm)])) := by rw [cells3_append]; exact ho10
      obtain ⟨A10, c10, rfl, hr10⟩ := own_reads ho11
      have HR10 := Lib.hid hr10
      clear hrun hW ho1 hnb hsz ho10 hg10 ho11 hr10
      go_wp2_with (first | (at_builtin; refine wpList_app _ w9 _ rfl (.tmp 112) (.tmp 113) _ rfl _ _ rfl rfl HRUN9.out ?_) | (at_builtin; refine wpList_app _ w10 _ rfl (.tmp 124) (.tmp 129) _ rfl _ _ rfl rfl HRUN10.out ?_))
      have hm2 : (if loadsErr (l ++ [(x, 0, arm)]) ≠ 0 then ((0, 0), loadsErr (l ++ [(x, 0, arm)])) else (momF (l ++ [(x, 0, arm)]), 0)) = ((mx, 0), 0) := by
        rw [if_neg (show ¬ loadsErr (l ++ [(x, 0, arm)]) ≠ 0 by rw [HS2.out]; simp), momF_snoc, HMOM.out]
        simp only [hbal]
        congr 2
        · omega
        · omega
      have HM2 := Lib.hid hm2
      clear hm2 hbal
      have hzz := hb10.size
      have HB10 := Lib.hid hb10
      clear hb10
      go_wp2_with fail
      refine (moments_any A10 (n + 1) c10 _ (l ++ [(x, 0, arm)]) _ HR10.out (Nat.le_refl _) (by omega) (mx) (0) 0 HM2.out).mono ?_
      rintro e w11 ⟨rfl, hb⟩
      have HB11 := Lib.hid (show Below w.heap.size w w11 from step_below hb (by repeat' (first | exact Below.refl _ _ | exact HB10.out | refine below_drewN ?_ _ | refine Below.drew ?_ | refine Below.alloc ?_ (by first | omega | (simp; done) | (simp; omega) | (simp [World.setCell]; omega)) _ | refine Below.setCell ?_ (by first | omega | (simp; done) | (simp; omega)) _ | assumption)))
      have hz11 := hb.size
      try simp only [World.size_alloc, World.drewN, World.drew] at hz11
      clear hb
      go_wp2
      go_ret
      exact ⟨rfl, by repeat' (first | exact Below.refl _ _ | exact HB11.out | refine below_drewN ?_ _ | refine Below.drew ?_ | refine Below.alloc ?_ (by first | omega | (simp; done) | (simp; omega) | (simp [World.setCell]; omega)) _ | refine Below.setCell ?_ (by first | omega | (simp; done) | (simp; omega)) _ | assumption)⟩


end Go.Proofs.Ytmioamcgbihhjaa
