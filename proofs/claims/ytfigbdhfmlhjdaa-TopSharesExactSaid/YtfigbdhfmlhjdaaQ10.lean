import Derived.Test.YtfigbdhfmlhjdaaQ9
import Derived.Test.YtfigbdhfmlhjdaaQ8
import Derived.Test.YtfigbdhfmlhjdaaQ1

section
/- The contract of the reference's check of a tree. -/
namespace Go.Proofs.Ytfigbdhfmlhjdaa
open Go.RowKit

theorem rkCells_take (l : List Rk) : ∀ k : Nat, (rkCells l).take (k * 5) = rkCells (l.take k) := by
  induction l with
  | nil => intro k; simp [rkCells]
  | cons r l ih =>
    intro k
    cases k with
    | zero => simp [rkCells]
    | succ k =>
      have e : rkCells (r :: l) = r.cells ++ rkCells l := rfl
      have e2 : rkCells ((r :: l).take (k + 1)) = r.cells ++ rkCells (l.take k) := rfl
      rw [e, e2, ← ih k, List.take_append, show r.cells.length = 5 from rfl, show (k + 1) * 5 - 5 = k * 5 by omega, List.take_of_length_le (by show 5 ≤ _; omega)]
theorem strs_take (xs : List ByteArray) (k : Nat) : (strs xs).take (k * 1) = strs (xs.take k) := by
  unfold strs; rw [Nat.mul_one, List.map_take]

theorem findI_some {l : List Rk} {s : ByteArray} : (idxM l s).isSome = decide (0 ≤ findI l s) := by
  unfold idxM findI
  cases idxOf l s <;> simp

theorem open_err1 {l : List Rk} (h0 : l.length ≠ 0) (h1 : l.length ≤ 40) {E : Int} (h : err1 [] l = E) (hE : E ≠ 0) : openErr l = E := by
  unfold openErr
  rw [if_neg h0, if_neg (by omega), h, if_pos hE]
theorem open_clash {l : List Rk} (h0 : l.length ≠ 0) (h1 : l.length ≤ 40) (h : err1 [] l = 0) (hE : ¬ (borneAll l).Nodup) : openErr l = 13 := by
  unfold openErr
  rw [if_neg h0, if_neg (by omega), h, if_neg (by simp), if_pos hE]
theorem open_cycle {l : List Rk} (h0 : l.length ≠ 0) (h1 : l.length ≤ 40) (h : err1 [] l = 0) (hE : (borneAll l).Nodup) (hc : l.any (fun r => climbs l (l.length + 1) r.name) = true) : openErr l = 21 := by
  unfold openErr
  rw [if_neg h0, if_neg (by omega), h, if_neg (by simp), if_neg (by simpa using hE), if_pos hc]
theorem open_tops {l : List Rk} (h0 : l.length ≠ 0) (h1 : l.length ≤ 40) (h : err1 [] l = 0) (hE : (borneAll l).Nodup) (hc : l.any (fun r => climbs l (l.length + 1) r.name) = false) : openErr l = if 1 < (topsOf l).length then 25 else 0 := by
  unfold openErr
  rw [if_neg h0, if_neg (by omega), h, if_neg (by simp), if_neg (by simpa using hE), if_neg (by rw [hc]; simp)]

theorem err1_none {l : List Rk} (h : ∀ j, j < l.length → ∀ r, l[j]? = some r → rkErr (idxM (l.take j) r.name).isSome r = 0) : err1 [] l = 0 := by
  rw [err1_at (k := l.length) (fun j hj => h j hj), List.drop_of_length_le (Nat.le_refl _), err1]

/-- What bears a thing, as the search up to a place knows it. -/
def AbvAt (l : List Rk) (nm : ByteArray) (q : Nat) (ab : ByteArray) : Prop :=
  (∃ j r, j < q ∧ l[j]? = some r ∧ (r.left = nm ∨ r.right = nm) ∧ ab = r.name) ∨ ((∀ j, j < q → ∀ r, l[j]? = some r → ¬ (r.left = nm ∨ r.right = nm)) ∧ ab = ByteArray.empty)
theorem AbvAt.zero (l : List Rk) (nm : ByteArray) : AbvAt l nm 0 ByteArray.empty := .inr ⟨fun j hj => by omega, rfl⟩
theorem AbvAt.hit {l : List Rk} {nm : ByteArray} {q : Nat} {r : Rk} (hr : l[q]? = some r) (h : r.left = nm ∨ r.right = nm) : AbvAt l nm (q + 1) r.name := .inl ⟨q, r, by omega, hr, h, rfl⟩
theorem AbvAt.miss {l : List Rk} {nm : ByteArray} {q : Nat} {r : Rk} {ab : ByteArray} (ha : AbvAt l nm q ab) (hr : l[q]? = some r) (h : ¬ (r.left = nm ∨ r.right = nm)) : AbvAt l nm (q + 1) ab := by
  rcases ha with ⟨j, r', hj, h1, h2, h3⟩ | ⟨h1, h2⟩
  · exact .inl ⟨j, r', by omega, h1, h2, h3⟩
  · refine .inr ⟨fun j hj r' hr' => ?_, h2⟩
    rcases Nat.lt_succ_iff_lt_or_eq.1 hj with hj | hj
    · exact h1 j hj r' hr'
    · subst hj
      obtain rfl := Option.some.inj (hr'.symm.trans hr)
      exact h
theorem AbvAt.done {l : List Rk} {nm : ByteArray} {ab : ByteArray} (ha : AbvAt l nm l.length ab) (hn : (borneAll l).Nodup) : (upOf l nm = some ab ∧ ∃ r ∈ l, r.name = ab) ∨ (upOf l nm = none ∧ ab = ByteArray.empty) := by
  rcases ha with ⟨j, r', hj, h1, h2, rfl⟩ | ⟨h1, h2⟩
  · exact .inl ⟨up_of_child hn h1 h2, r', List.mem_of_getElem? h1, rfl⟩
  · refine .inr ⟨?_, h2⟩
    unfold upOf
    cases hb : bearerOf l nm with
    | none => rfl
    | some i =>
      obtain ⟨r, hr, hs⟩ := bearer_get hb
      exact absurd hs (h1 i (List.getElem?_eq_some_iff.1 hr).1 r hr)

theorem name_of_err1 {l : List Rk} (h : err1 [] l = 0) {r : Rk} (hr : r ∈ l) : nameB r.name = true := by
  obtain ⟨ex, he⟩ := err1_mem l [] h r hr
  unfold rkErr at he
  cases hn : nameB r.name
  · rw [hn] at he; simp at he
  · rfl

set_option maxRecDepth 100000 in
set_option maxHeartbeats 4000000 in
theorem rchecktree_any (l : List Rk) (hf : ∀ r ∈ l, r.Fits) (A : Option Addr) (n c N : Nat) (w : World) (hx : Reads w N 5 A n (rkCells l)) (hN : N ≤ w.heap.size) (hn : n ≤ 100000) (hnc : n ≤ c) (hcm : c ≤ 9223372036854775807) :
    Calls Try.prog 9 #[.slice A n c] w fun e w' => e = .returned (.int .i64 (openErr l)) ∧ Below w.heap.size w w' := by
  have hxl := Lib.hid hx.len5
  have HX := Lib.hid hx
  clear hx
  by_cases h0 : n = 0
  · subst h0
    have HOP : Hid (openErr l = 10) := by show _ = _; unfold openErr; rw [if_pos hxl.out]
    go_enter Try.func9, Try.ntmps9
    go_wp2
    go_ret
    exact ⟨ret_int HOP.out.symm, Below.refl _ _⟩
  have e0 : ((n : Int) == 0) = false := beq_eq_false_iff_ne.2 (by omega)
  by_cases h40 : (40 : Int) < n
  · have HOP : Hid (openErr l = 8) := by show _ = _; unfold openErr; rw [if_neg (by rw [hxl.out]; exact h0), if_pos (by rw [hxl.out]; omega)]
    go_enter Try.func9, Try.ntmps9
    go_wp2
    go_ret
    exact ⟨ret_int HOP.out.symm, Below.refl _ _⟩
  have L0 : Hid (l.length ≠ 0) := by show _ ≠ _; rw [hxl.out]; exact h0
  have L1 : Hid (l.length ≤ 40) := by show _ ≤ _; rw [hxl.out]; omega
  go_enter Try.func9, Try.ntmps9
  go_wp2
  go_loopw [3] (fun i wr => ∃ k : Nat, k ≤ n ∧ i = .int .i64 k ∧ Below w.heap.size w wr ∧ (∀ j, j < k → ∀ r, l[j]? = some r → rkErr (idxM (l.take j) r.name).isSome r = 0)) (fun i _ => n - (intOf i).toNat)
  case atStart => exact ⟨0, by omega, rfl, Below.refl _ _, fun j hj => by omega⟩
  case round =>
    obtain ⟨k, hk, rfl, hb, hok⟩ := hrel
    have HOK := Lib.hid hok
    clear hok
    have HB1 := Lib.hid hb
    clear hb
    by_cases hlt : k < n
    · obtain ⟨xb, xo, r, rfl, hxb, hr, c0, c1, c2, c3, c4⟩ := HX.out.rk hlt
      have hfit := hf r (List.mem_of_getElem? hr)
      have HR := Lib.hid hr
      clear hr
      rw [← HB1.out.cell (p := ⟨xb, xo + k * 5, none⟩) (by simp; omega)] at c0
      rw [← HB1.out.cell (p := ⟨xb, xo + k * 5 + 1, none⟩) (by simp; omega)] at c1
      rw [← HB1.out.cell (p := ⟨xb, xo + k * 5 + 2, none⟩) (by simp; omega)] at c2
      rw [← HB1.out.cell (p := ⟨xb, xo + k * 5 + 3, none⟩) (by simp; omega)] at c3
      rw [← HB1.out.cell (p := ⟨xb, xo + k * 5 + 4, none⟩) (by simp; omega)] at c4
      have hbs := HB1.out.size
      have HSTOP : Hid (∀ E, rkErr (idxM (l.take k) r.name).isSome r = E → E ≠ 0 → openErr l = E) := fun E h1 h2 =>
        open_err1 L0.out L1.out ((err1_stop HOK.out HR.out (by rw [h1]; exact h2)).trans h1) h2
      go_wp2_with fail
      refine (isnameref_any r.name _ hfit.name).mono ?_
      rintro e w' ⟨rfl, rfl⟩
      cases hn0 : nameB r.name
      · have HE := Lib.hid (HSTOP.out 4 (by unfold rkErr; simp [hn0]) (by decide))
        clear hn0
        go_wp2
        go_ret
        exact ⟨ret_int HE.out.symm, HB1.out⟩
      have HN0 := Lib.hid hn0
      clear hn0
      go_wp2
      obtain ⟨F, hF⟩ : ∃ F, findI (l.take k) r.name = F := ⟨_, rfl⟩
      have HF := Lib.hid hF
      clear hF
      have hc0 : ¬ c = 0 := by omega
      have hkc : (k : Int) ≤ (c : Int) := by omega
      have HTK : Hid (∀ w', Below w.heap.size w w' → Reads w' N 5 (some ⟨xb, xo, none⟩) k (rkCells (l.take k))) := fun w' hb => by
        have := (HX.out.belowLe hb hN).take_ (k := k) (by omega)
        rwa [rkCells_take] at this
      refine Fx.regionW (fun W f w' => Below W.heap.size W w') (by kernel_rfl) (by kernel_rfl) ?_ ?_
      · intro f hf0
        exact below_drewN (Below.refl _ _) 1
      repeat (first
        | (refine Fx.skip_ (by rfl) (fun f w h => h) ?_; simp only [Act.put, List.setIfInBounds_toArray, List.set_cons_zero, List.set_cons_succ])
        | (refine Fx.val_ ?_ (by rfl) ?_ (fun f w h => h) ?_
           rotate_left
           · intro f w' hD hk
             have hb := hD
             have y0 := (hb.cell (p := ⟨xb, xo + k * 5, none⟩) (by show xb < _; omega)).trans c0
             clear hk hD hb
             go_simp
             try rfl
           simp only [Act.put, List.setIfInBounds_toArray, List.set_cons_zero, List.set_cons_succ]))
      refine Fx.call_ (.int .i64 F) ?_ ?_ (by rfl) ?_ ?_ ?_
      rotate_left 2
      · intro w'
        go_simp
        refine ⟨?_, ?_⟩ <;> rfl
      · intro f w' hD hk
        exact (find_is (l.take k) _ k c N r.name F HF.out _ (HTK.out _ (HB1.out.trans (hD.mono hbs))) (by omega)).mono fun e w'' ⟨he, hw⟩ => ⟨he, hw ▸ hD⟩
      simp only [Act.put, List.setIfInBounds_toArray, List.set_cons_zero, List.set_cons_succ]
      repeat (first
        | (refine Fx.skip_ (by rfl) (fun f w h => h) ?_; simp only [Act.put, List.setIfInBounds_toArray, List.set_cons_zero, List.set_cons_succ])
        | (refine Fx.val_ ?_ (by rfl) ?_ (fun f w h => h) ?_
           rotate_left
           · intro f w' hD hk
             have hb := hD
             have y0 := (hb.cell (p := ⟨xb, xo + k * 5, none⟩) (by show xb < _; omega)).trans c0
             clear hk hD hb
             go_simp
             try rfl
           simp only [Act.put, List.setIfInBounds_toArray, List.set_cons_zero, List.set_cons_succ]))
      refine Fx.nil_ ?_
      intro f w2 hall hb
      clear hall
      have HBB := Lib.hid hb
      have HB2 := Lib.hid (show Below w.heap.size w w2 from step_below hb (by repeat' (first | exact Below.refl _ _ | exact HB1.out | refine below_drewN ?_ _ | refine Below.drew ?_ | refine Below.alloc ?_ (by first | omega | (simp; done) | (simp; omega) | (simp [World.setCell]; omega)) _ | refine Below.setCell ?_ (by first | omega | (simp; done) | (simp; omega)) _ | assumption)))
      have hz2 := hb.size
      try simp only [World.size_alloc, World.drewN, World.drew] at hz2
      clear hb
      clear HTK
      have hb2s := HB2.out.size
      have d1 : w2.cell? ⟨xb, xo + k * 5 + 1, none⟩ = some (.string r.left) := by rw [← c1]; exact (HBB.out.cell (p := ⟨xb, _, none⟩) (by show xb < _; omega))
      have d2 : w2.cell? ⟨xb, xo + k * 5 + 2, none⟩ = some (.string r.right) := by rw [← c2]; exact (HBB.out.cell (p := ⟨xb, _, none⟩) (by show xb < _; omega))
      have d3 : w2.cell? ⟨xb, xo + k * 5 + 3, none⟩ = some (.int .i64 r.al) := by rw [← c3]; exact (HBB.out.cell (p := ⟨xb, _, none⟩) (by show xb < _; omega))
      have d4 : w2.cell? ⟨xb, xo + k * 5 + 4, none⟩ = some (.int .i64 r.ar) := by rw [← c4]; exact (HBB.out.cell (p := ⟨xb, _, none⟩) (by show xb < _; omega))
      clear c0 c1 c2 c3 c4
      by_cases hF0 : 0 ≤ F
      · have HE := Lib.hid (HSTOP.out 5 (by unfold rkErr; rw [findI_some, HF.out, decide_eq_true hF0]; simp [HN0.out]) (by decide))
        go_wp2
        go_ret
        exact ⟨ret_int HE.out.symm, HB2.out⟩
      have HEX : Hid ((idxM (l.take k) r.name).isSome = false) := by show _ = _; rw [findI_some, HF.out, decide_eq_false hF0]
      go_wp2_with fail
      refine (isnameref_any r.left _ hfit.left).mono ?_
      rintro e w' ⟨rfl, rfl⟩
      cases hn1 : nameB r.left
      · have HE := Lib.hid (HSTOP.out 4 (by unfold rkErr; rw [HEX.out]; simp [HN0.out, hn1]) (by decide))
        clear hn1
        go_wp2
        go_ret
        exact ⟨ret_int HE.out.symm, HB2.out⟩
      have HN1 := Lib.hid hn1
      clear hn1
      go_wp2_with fail
      refine (isnameref_any r.right _ hfit.right).mono ?_
      rintro e w' ⟨rfl, rfl⟩
      cases hn2 : nameB r.right
      · have HE := Lib.hid (HSTOP.out 4 (by unfold rkErr; rw [HEX.out]; simp [HN0.out, hn2]) (by decide))
        clear hn2
        go_wp2
        go_ret
        exact ⟨ret_int HE.out.symm, HB2.out⟩
      have HN2 := Lib.hid hn2
      clear hn2
      go_wp2_with fail
      obtain ⟨t1, ht1⟩ : ∃ t, withinB r.al 1 10000 = t := ⟨_, rfl⟩
      refine (withinref_is _ _ _ t1 ht1 _).mono ?_
      rintro e w' ⟨rfl, rfl⟩
      cases t1
      · have HE := Lib.hid (HSTOP.out 2 (by unfold rkErr; rw [HEX.out]; simp [HN0.out, HN1.out, HN2.out, ht1]) (by decide))
        clear ht1
        go_wp2
        go_ret
        exact ⟨ret_int HE.out.symm, HB2.out⟩
      have HT1 := Lib.hid ht1
      clear ht1
      go_wp2_with fail
      obtain ⟨t2, ht2⟩ : ∃ t, withinB r.ar 1 10000 = t := ⟨_, rfl⟩
      refine (withinref_is _ _ _ t2 ht2 _).mono ?_
      rintro e w' ⟨rfl, rfl⟩
      cases t2
      · have HE := Lib.hid (HSTOP.out 2 (by unfold rkErr; rw [HEX.out]; simp [HN0.out, HN1.out, HN2.out, ht2]) (by decide))
        clear ht2
        go_wp2
        go_ret
        exact ⟨ret_int HE.out.symm, HB2.out⟩
      have HE : Hid (rkErr (idxM (l.take k) r.name).isSome r = 0) := by show _ = _; unfold rkErr; rw [HEX.out]; simp [HN0.out, HN1.out, HN2.out, HT1.out, ht2]
      clear ht2
      go_wp2
      go_roundw
      case rel =>
        refine ⟨k + 1, by omega, by go_num, HB2.out, fun j hj r' hr' => ?_⟩
        rcases Nat.lt_succ_iff_lt_or_eq.1 hj with hj | hj
        · exact HOK.out j hj r' hr'
        · subst hj
          obtain rfl := Option.some.inj (hr'.symm.trans HR.out)
          exact HE.out
      case measure => simp [intOf]; omega
    · have hkn : k = n := by omega
      have HE1 : Hid (err1 [] l = 0) := err1_none fun j hj r hr => HOK.out j (by rw [hkn, ← hxl.out]; exact hj) r hr
      clear HOK hkn
      have hbs := HB1.out.size
      go_wp2_with fail
      refine (borne_any l A n c N _ (HX.out.belowLe HB1.out hN) (by omega) hn).mono ?_
      rintro e w2 ⟨hb, A', c', rfl, hcc, hrr⟩
      have HB2 := Lib.hid (show Below w.heap.size w w2 from step_below hb (by repeat' (first | exact Below.refl _ _ | exact HB1.out | refine below_drewN ?_ _ | refine Below.drew ?_ | refine Below.alloc ?_ (by first | omega | (simp; done) | (simp; omega) | (simp [World.setCell]; omega)) _ | refine Below.setCell ?_ (by first | omega | (simp; done) | (simp; omega)) _ | assumption)))
      have hz2 := hb.size
      try simp only [World.size_alloc, World.drewN, World.drew] at hz2
      clear hb
      have HRR := Lib.hid hrr
      clear hrr
      obtain ⟨m, hm⟩ : ∃ m, 2 * n = m := ⟨_, rfl⟩
      rw [hm] at HRR hcc
      rw [hm]
      have HM := Lib.hid hm
      have hm2 : m ≤ 200000 := by omega
      clear hm
      have hxb := HRR.out.len1
      have HXB := Lib.hid hxb
      clear hxb hbs
      have hbs2 := HB2.out.size
      go_wp2
      go_loopw [5] (fun i wr => ∃ k : Nat, k ≤ m ∧ i = .int .i64 k ∧ Below w2.heap.size w2 wr ∧ ((borneAll l).take k).Nodup) (fun i _ => m - (intOf i).toNat)
      case atStart => exact ⟨0, by omega, rfl, Below.refl _ _, by simp⟩
      case round =>
        obtain ⟨k, hk, rfl, hb, hnd⟩ := hrel
        have HND := Lib.hid hnd
        have HBW := Lib.hid (HB2.out.trans (hb.mono hbs2))
        clear hnd
        have HRW := Lib.hid (HRR.out.below hb)
        have HB3 := Lib.hid hb
        clear hb
        have hbs3 := HB3.out.size
        by_cases hlt : k < m
        · obtain ⟨bb, bo, x, rfl, hbb, hr, c0⟩ := HRW.out.str hlt
          have HR := Lib.hid hr
          clear hr
          have hkc : (k : Int) ≤ (c' : Int) := by omega
          have hc0 : ¬ c' = 0 := by omega
          have HTK : Hid (∀ w', Below wr.heap.size wr w' → Reads w' w2.heap.size 1 (some ⟨bb, bo, none⟩) k (strs ((borneAll l).take k))) := fun w' hb => by
            have := (HRW.out.belowLe hb hbs3).take_ (k := k) (by omega)
            rwa [strs_take] at this
          go_wp2
          cases hh : hasB ((borneAll l).take k) x
          · have HH := Lib.hid hh
            have HN2 : Hid (((borneAll l).take (k + 1)).Nodup) := by
              show List.Nodup _
              rw [List.take_add_one, HR.out]
              refine List.nodup_append.2 ⟨HND.out, by simp, fun a ha b hb2 => ?_⟩
              simp only [Option.toList_some, List.mem_singleton] at hb2
              subst hb2
              rintro rfl
              exact hasB_false.1 HH.out ha
            clear hh
            refine Fx.regionW (fun W f w' => Below W.heap.size W w') (by kernel_rfl) (by kernel_rfl) ?_ ?_
            · intro f hf0
              exact below_drewN (Below.refl _ _) 1
            repeat (first
              | (refine Fx.skip_ (by rfl) (fun f w h => h) ?_; simp only [Act.put, List.setIfInBounds_toArray, List.set_cons_zero, List.set_cons_succ])
              | (refine Fx.val_ ?_ (by rfl) ?_ (fun f w h => h) ?_
                 rotate_left
                 · intro f w' hD hk
                   have hb := hD
                   have y0 := (hb.cell (p := ⟨bb, bo + k, none⟩) (by show bb < _; omega)).trans c0
                   clear hk hD hb
                   go_simp
                   try rfl
                 simp only [Act.put, List.setIfInBounds_toArray, List.set_cons_zero, List.set_cons_succ]))
            refine Fx.call_ (.bool false) ?_ ?_ (by rfl) ?_ ?_ ?_
            rotate_left 2
            · intro w'
              go_simp
              refine ⟨?_, ?_⟩ <;> rfl
            · intro f w' hD hk
              exact (hastext_is ((borneAll l).take k) _ k c' _ x false HH.out _ (HTK.out _ hD) (by omega)).mono fun e w'' ⟨he, hw⟩ => ⟨he, hw ▸ hD⟩
            simp only [Act.put, List.setIfInBounds_toArray, List.set_cons_zero, List.set_cons_succ]
            repeat (first
              | (refine Fx.skip_ (by rfl) (fun f w h => h) ?_; simp only [Act.put, List.setIfInBounds_toArray, List.set_cons_zero, List.set_cons_succ])
              | (refine Fx.val_ ?_ (by rfl) ?_ (fun f w h => h) ?_
                 rotate_left
                 · intro f w' hD hk
                   have hb := hD
                   have y0 := (hb.cell (p := ⟨bb, bo + k, none⟩) (by show bb < _; omega)).trans c0
                   clear hk hD hb
                   go_simp
                   try rfl
                 simp only [Act.put, List.setIfInBounds_toArray, List.set_cons_zero, List.set_cons_succ]))
            refine Fx.nil_ ?_
            intro f w4 hall hb4
            clear hall HTK
            go_wp2
            go_roundw
            case rel => exact ⟨k + 1, by omega, by go_num, HB3.out.trans (hb4.mono hbs3), HN2.out⟩
            case measure => simp [intOf]; omega
          · have HH := Lib.hid hh
            have HE : Hid (openErr l = 13) := open_clash L0.out L1.out HE1.out (fun hd => by
              have h1 := hasB_true.1 HH.out
              obtain ⟨j, hj⟩ := List.getElem?_of_mem h1
              have hjk : j < k := by have := (List.getElem?_eq_some_iff.1 hj).1; rw [List.length_take] at this; omega
              rw [List.getElem?_take, if_pos hjk] at hj
              obtain ⟨g1, g2⟩ := List.getElem?_eq_some_iff.1 hj
              obtain ⟨g3, g4⟩ := List.getElem?_eq_some_iff.1 HR.out
              have := (List.pairwise_iff_getElem.1 hd) j k g1 g3 hjk
              rw [g2, g4] at this
              exact this rfl)
            clear hh
            refine Fx.regionW (fun W f w' => Below W.heap.size W w') (by kernel_rfl) (by kernel_rfl) ?_ ?_
            · intro f hf0
              exact below_drewN (Below.refl _ _) 1
            repeat (first
              | (refine Fx.skip_ (by rfl) (fun f w h => h) ?_; simp only [Act.put, List.setIfInBounds_toArray, List.set_cons_zero, List.set_cons_succ])
              | (refine Fx.val_ ?_ (by rfl) ?_ (fun f w h => h) ?_
                 rotate_left
                 · intro f w' hD hk
                   have hb := hD
                   have y0 := (hb.cell (p := ⟨bb, bo + k, none⟩) (by show bb < _; omega)).trans c0
                   clear hk hD hb
                   go_simp
                   try rfl
                 simp only [Act.put, List.setIfInBounds_toArray, List.set_cons_zero, List.set_cons_succ]))
            refine Fx.call_ (.bool true) ?_ ?_ (by rfl) ?_ ?_ ?_
            rotate_left 2
            · intro w'
              go_simp
              refine ⟨?_, ?_⟩ <;> rfl
            · intro f w' hD hk
              exact (hastext_is ((borneAll l).take k) _ k c' _ x true HH.out _ (HTK.out _ hD) (by omega)).mono fun e w'' ⟨he, hw⟩ => ⟨he, hw ▸ hD⟩
            simp only [Act.put, List.setIfInBounds_toArray, List.set_cons_zero, List.set_cons_succ]
            repeat (first
              | (refine Fx.skip_ (by rfl) (fun f w h => h) ?_; simp only [Act.put, List.setIfInBounds_toArray, List.set_cons_zero, List.set_cons_succ])
              | (refine Fx.val_ ?_ (by rfl) ?_ (fun f w h => h) ?_
                 rotate_left
                 · intro f w' hD hk
                   have hb := hD
                   have y0 := (hb.cell (p := ⟨bb, bo + k, none⟩) (by show bb < _; omega)).trans c0
                   clear hk hD hb
                   go_simp
                   try rfl
                 simp only [Act.put, List.setIfInBounds_toArray, List.set_cons_zero, List.set_cons_succ]))
            refine Fx.nil_ ?_
            intro f w4 hall hb4
            clear hall HTK
            go_wp2
            go_ret
            exact ⟨ret_int HE.out.symm, HBW.out.trans (hb4.mono (by have := HBW.out.size; omega))⟩
        · have hkm : k = m := by omega
          have HD : Hid ((borneAll l).Nodup) := by
            have := HND.out
            rw [List.take_of_length_le (by rw [HXB.out]; omega)] at this
            exact this
          clear HND hkm
          have HXW := Lib.hid (HX.out.belowLe HBW.out hN)
          have hbw := HBW.out.size
          go_wp2
          go_loop [6, 7] (fun t i => ∃ k : Nat, k ≤ n ∧ i = .int .i64 k ∧ t = .int .i64 ((topsTo l k).length : Int) ∧ ∀ j, j < k → ∀ r, l[j]? = some r → ¬ Circ l r.name (n + 1)) (fun _ i => n - (intOf i).toNat)
          case atStart => exact ⟨0, by omega, rfl, rfl, fun j hj => by omega⟩
          case round =>
            obtain ⟨k, hk, rfl, rfl, hci⟩ := hrel
            have HCI := Lib.hid hci
            clear hci
            by_cases hlt : k < n
            · obtain ⟨xb, xo, r, rfl, hxb, hr, c0, -, -, -, -⟩ := HXW.out.rk hlt
              have hfit := hf r (List.mem_of_getElem? hr)
              have HR := Lib.hid hr
              clear hr
              have htl := topsTo_le l k
              have HTS := Lib.hid (topsTo_succ l k)
              have HIT := Lib.hid (isTop_mem HR.out)
              go_wp2_with fail
              obtain ⟨t1, ht1⟩ : ∃ t, hasB (borneAll l) r.name = t := ⟨_, rfl⟩
              refine (hastext_is (borneAll l) _ m c' _ r.name t1 ht1 _ HRW.out (by omega)).mono ?_
              rintro e w' ⟨rfl, rfl⟩
              have HT : Hid (((topsTo l k).length : Int) + (if t1 then 0 else 1) = ((topsTo l (k + 1)).length : Int)) := by
                show _ = _
                rw [HTS.out, HIT.out, ht1]
                cases t1 <;> simp
              clear ht1
              have HNEXT : Hid (¬ Circ l r.name (n + 1) → ∀ j, j < k + 1 → ∀ r, l[j]? = some r → ¬ Circ l r.name (n + 1)) := fun hc j hj r' hr' => by
                rcases Nat.lt_succ_iff_lt_or_eq.1 hj with hj | hj
                · exact HCI.out j hj r' hr'
                · subst hj
                  obtain rfl := Option.some.inj (hr'.symm.trans HR.out)
                  exact hc
              cases t1
              all_goals
                simp only [Bool.false_eq_true, if_false, if_true, Int.add_zero] at HT
                go_wp2
                go_loop [8, 9] (fun x y => ∃ (nm : ByteArray) (st : Nat), x = .string nm ∧ y = .int .i64 st ∧ st ≤ n + 1 ∧ upN l st r.name = some nm ∧ ¬ Circ l r.name st) (fun _ y => n + 2 - (intOf y).toNat)
                case atStart => exact ⟨r.name, 0, rfl, rfl, by omega, rfl, circ_zero l _⟩
                case round =>
                  obtain ⟨nm, st, rfl, rfl, hst, hup, hnc2⟩ := hrel
                  have HUP := Lib.hid hup
                  have HNC := Lib.hid hnc2
                  clear hup hnc2
                  by_cases hsn : (st : Int) ≤ (n : Int)
                  · go_wp2
                    go_loop [10, 11] (fun a i => ∃ (ab : ByteArray) (q : Nat), q ≤ n ∧ i = .int .i64 q ∧ a = .string ab ∧ AbvAt l nm q ab) (fun _ i => n - (intOf i).toNat)
                    case atStart => exact ⟨ByteArray.empty, 0, by omega, rfl, rfl, AbvAt.zero l nm⟩
                    case round =>
                      obtain ⟨ab, q, hq, rfl, rfl, hab⟩ := hrel
                      have HAB := Lib.hid hab
                      clear hab
                      by_cases hqn : q < n
                      · obtain ⟨zb, zo, r2, hA2, hzb, hr2, f0, f1, f2, -, -⟩ := HXW.out.rk hqn
                        simp only [Option.some.injEq, Addr.mk.injEq, and_true] at hA2
                        obtain ⟨rfl, rfl⟩ := hA2
                        have HR2 := Lib.hid hr2
                        clear hr2
                        by_cases hl1 : r2.left = nm
                        · have HH := Lib.hid (AbvAt.hit HR2.out (.inl hl1))
                          have hq1 := str_eq hl1
                          have HL1 := Lib.hid hl1
                          clear hl1
                          go_wp2
                          go_round
                          case rel => exact ⟨r2.name, q + 1, by omega, by go_num, rfl, HH.out⟩
                          case measure => simp [intOf]; omega
                        · have hq1 := str_ne hl1
                          have HL1 := Lib.hid hl1
                          clear hl1
                          by_cases hl2 : r2.right = nm
                          · have HH := Lib.hid (AbvAt.hit HR2.out (.inr hl2))
                            have hq2 := str_eq hl2
                            have HL2 := Lib.hid hl2
                            clear hl2
                            go_wp2
                            go_round
                            case rel => exact ⟨r2.name, q + 1, by omega, by go_num, rfl, HH.out⟩
                            case measure => simp [intOf]; omega
                          · have HH := Lib.hid (AbvAt.miss HAB.out HR2.out (fun h => h.elim HL1.out hl2))
                            have hq2 := str_ne hl2
                            have HL2 := Lib.hid hl2
                            clear hl2
                            go_wp2
                            go_round
                            case rel => exact ⟨ab, q + 1, by omega, by go_num, rfl, HH.out⟩
                            case measure => simp [intOf]; omega
                      · have hqe : q = n := by omega
                        have hdn := AbvAt.done (show AbvAt l nm l.length ab by rw [hxl.out, ← hqe]; exact HAB.out) HD.out
                        clear HAB hqe
                        rcases hdn with ⟨hu, r3, hr3, hn3⟩ | ⟨hu, rfl⟩
                        · have hsz := nameB_size (name_of_err1 HE1.out hr3)
                          rw [hn3] at hsz
                          have HU : Hid (upN l (st + 1) r.name = some ab) := by show (upN l st r.name).bind (upOf l) = _; rw [HUP.out]; exact hu
                          have hem : ab.toList.isEmpty = false := by
                            cases hx : ab.toList.isEmpty with
                            | false => rfl
                            | true => rw [List.isEmpty_iff, empty_iff] at hx; omega
                          have hem2 : ¬ ab.toList = [] := fun h => by rw [empty_iff] at h; omega
                          have hem3 : (ab.toList == []) = false := beq_eq_false_iff_ne.2 hem2
                          clear hu hr3 hn3
                          by_cases hq3 : ab = r.name
                          · have HE : Hid (openErr l = 21) := open_cycle L0.out L1.out HE1.out HD.out (circ_yes (List.mem_of_getElem? HR.out) ⟨st + 1, by omega, Nat.le_refl _, by rw [HU.out, hq3]⟩)
                            have hq4 := str_eq hq3
                            have HQ3 := Lib.hid hq3
                            clear hq3
                            go_wp2
                            go_ret
                            exact ⟨ret_int HE.out.symm, HBW.out⟩
                          · have hq4 := str_ne hq3
                            have HC3 := Lib.hid (Circ.more HNC.out HU.out hq3)
                            have HQ3 := Lib.hid hq3
                            clear hq3
                            go_wp2
                            go_round
                            case rel => exact ⟨ab, st + 1, rfl, by go_num, by omega, HU.out, HC3.out⟩
                            case measure => simp [intOf]; omega
                        · have HU : Hid (upN l (st + 1) r.name = none) := by show (upN l st r.name).bind (upOf l) = _; rw [HUP.out]; exact hu
                          have HX2 := Lib.hid (HNEXT.out (Circ.ended HNC.out HU.out _))
                          clear hu
                          go_wp2
                          go_round
                          case rel => exact ⟨k + 1, by omega, by go_num, by rw [← HT.out], HX2.out⟩
                          case measure => simp [intOf]; omega
                  · have hse : st = n + 1 := by omega
                    have HX2 := Lib.hid (HNEXT.out (hse ▸ HNC.out))
                    clear hse
                    go_wp2
                    go_round
                    case rel => exact ⟨k + 1, by omega, by go_num, by rw [← HT.out], HX2.out⟩
                    case measure => simp [intOf]; omega
            · have hkn : k = n := by omega
              have HK : Hid (topsTo l k = topsOf l) := by show _ = _; unfold topsOf; rw [hkn, hxl.out]
              have HX0 : Hid (openErr l = if 1 < (topsOf l).length then 25 else 0) :=
                open_tops L0.out L1.out HE1.out HD.out (circ_no fun r hr => by
                  obtain ⟨j, hj, rfl⟩ := List.getElem_of_mem hr
                  have := HCI.out j (by rw [hkn, ← hxl.out]; exact hj) _ (List.getElem?_eq_getElem hj)
                  rwa [hxl.out])
              have htl := topsTo_le l k
              clear hkn HCI
              by_cases hto : (1 : Int) < ((topsTo l k).length : Int)
              · have HE : Hid (openErr l = 25) := by show _ = _; rw [HX0.out, ← HK.out, if_pos (by omega)]
                go_wp2
                go_ret
                exact ⟨ret_int HE.out.symm, HBW.out⟩
              · have HE : Hid (openErr l = 0) := by show _ = _; rw [HX0.out, ← HK.out, if_neg (by omega)]
                go_wp2
                go_ret
                exact ⟨ret_int HE.out.symm, HBW.out⟩

end Go.Proofs.Ytfigbdhfmlhjdaa

end

section
/- Classes of worlds for the region rule in which several operations choose: memory of two cells that is made and stored into, and a copied list. -/
namespace Go.Proofs.Ytfigbdhfmlhjdaa
open Go.RowKit

/-- What is chosen: a slice's address and capacity, or the place of new memory. -/
abbrev Pick := Option Addr × Nat

/-- The new block that operation c makes holds two cells: v0 and v1 when operation s (the store) has come. -/
def MkM (T : TypeId) (v0 v1 : Value) (c s : Nat) (W : World) (g : Nat → Option Pick) (f : Nat → Bool) (w' : World) : Prop :=
  ∀ x, g c = some x → ∃ b, x.1 = some ⟨b, 0, none⟩ ∧ W.heap.size ≤ b ∧ ∃ e0 e1, Blk w' b T #[e0, e1] ∧ (f s = true → e0 = v0 ∧ e1 = v1)
/-- The list that operation c yields reads so, until operation s (a store) comes. -/
def RdM (size n : Nat) (xs : List Value) (c s : Nat) (g : Nat → Option Pick) (f : Nat → Bool) (w' : World) : Prop := ∀ x, g c = some x → f s = false → Reads w' w'.heap.size size x.1 n xs

theorem add_ne' {f : Nat → Bool} {k s : Nat} (hk : k ≠ s) : Fx.add f k s = f s := by
  unfold Fx.add
  cases h : s.beq k with
  | false => simp
  | true => exact absurd (Nat.eq_of_beq_eq_true h).symm hk
theorem add_same {f : Nat → Bool} {k : Nat} : Fx.add f k k = true := by
  unfold Fx.add
  rw [show Nat.beq k k = true from Nat.beq_refl k]
  rfl
theorem upd_ne {X : Type} {g : Nat → Option X} {i c : Nat} {x : X} (h : c ≠ i) : Fx.upd g i x c = g c := by
  unfold Fx.upd
  cases e : Nat.beq c i with
  | false => rfl
  | true => exact absurd (Nat.eq_of_beq_eq_true e) h

section
variable {T : TypeId} {v0 v1 : Value} {c s k i size n : Nat} {xs : List Value} {W w' w'' : World} {g g' : Nat → Option Pick} {f : Nat → Bool} {x : Pick}
theorem MkM.start : MkM T v0 v1 c s W (fun _ => none) f w' := fun x h => by cases h
theorem RdM.start : RdM size n xs c s (fun _ => none) f w' := fun x h => by cases h
theorem MkM.step (h : MkM T v0 v1 c s W g f w') (hb : Below w'.heap.size w' w'') (hk : k ≠ s) : MkM T v0 v1 c s W g (Fx.add f k) w'' := fun x hx => by
  obtain ⟨b, h0, h1, e0, e1, h2, h3⟩ := h x hx
  exact ⟨b, h0, h1, e0, e1, h2.below hb h2.lt, fun h => h3 (by rwa [add_ne' hk] at h)⟩
theorem RdM.step (h : RdM size n xs c s g f w') (hb : Below w'.heap.size w' w'') (hk : k ≠ s) : RdM size n xs c s g (Fx.add f k) w'' := fun x hx hf => by
  rw [add_ne' hk] at hf
  exact ((h x hx hf).below hb).more hb.size
theorem RdM.stored : RdM size n xs c s g (Fx.add f s) w'' := fun x _ hf => by rw [add_same] at hf; cases hf
theorem MkM.other (h : MkM T v0 v1 c s W g f w') (hc : c ≠ i) : MkM T v0 v1 c s W (Fx.upd g i x) f w' := fun y hy => h y (by rwa [upd_ne hc] at hy)
theorem RdM.other (h : RdM size n xs c s g f w') (hc : c ≠ i) : RdM size n xs c s (Fx.upd g i x) f w' := fun y hy => h y (by rwa [upd_ne hc] at hy)
theorem RdM.new (h : Reads w' w'.heap.size size x.1 n xs) : RdM size n xs c s (Fx.upd g c x) f w' := fun y hy _ => by rw [Fx.upd_same] at hy; cases hy; exact h
theorem MkM.make {a b : Value} (hW : W.heap.size ≤ w'.heap.size) (hs : f s = false) (hk : c ≠ s) : MkM T v0 v1 c s W (Fx.upd g c (some ⟨w'.heap.size, 0, none⟩, 0)) (Fx.add f c) (w'.alloc (.cells #[a, b] T)) := fun y hy => by
  rw [Fx.upd_same] at hy
  cases hy
  refine ⟨w'.heap.size, rfl, hW, a, b, Blk.new _ _ _, fun h => ?_⟩
  rw [add_ne' hk, hs] at h
  cases h
theorem MkM.cells (h : MkM T v0 v1 c s W g f w') (hx : g c = some x) : ∃ b e0 e1, x.1 = some ⟨b, 0, none⟩ ∧ W.heap.size ≤ b ∧ w'.cell? ⟨b, 0, none⟩ = some e0 ∧ w'.cell? ⟨b, 1, none⟩ = some e1 ∧ w'.frozen? ⟨b, 0, none⟩ = false ∧ w'.frozen? ⟨b, 1, none⟩ = false := by
  obtain ⟨b, h0, h1, e0, e1, h2, -⟩ := h x hx
  exact ⟨b, e0, e1, h0, h1, h2.cell 0, h2.cell 1, h2.frozen 0, h2.frozen 1⟩
/-- The store, seen by the block that it stores into. -/
theorem MkM.store {b : Nat} (h : MkM T v0 v1 c s W g f w') (hx : g c = some x) (hb : x.1 = some ⟨b, 0, none⟩) : MkM T v0 v1 c s W g (Fx.add f s) ((w'.setCell ⟨b, 0, none⟩ v0).setCell ⟨b, 1, none⟩ v1) := fun y hy => by
  rw [hx] at hy
  cases hy
  obtain ⟨b', h0, h1, e0, e1, h2, -⟩ := h x hx
  rw [hb] at h0
  cases h0
  refine ⟨b, hb, h1, v0, v1, ?_, fun _ => ⟨rfl, rfl⟩⟩
  have := (h2.set_ 0 v0).set_ 1 v1
  simpa using this
/-- A store, seen by another block. -/
theorem MkM.far {b : Nat} {u0 u1 : Value} (h : MkM T v0 v1 c s W g f w') (hk : k ≠ s) (hne : ∀ x b', g c = some x → x.1 = some ⟨b', 0, none⟩ → b' ≠ b) : MkM T v0 v1 c s W g (Fx.add f k) ((w'.setCell ⟨b, 0, none⟩ u0).setCell ⟨b, 1, none⟩ u1) := fun y hy => by
  obtain ⟨b', h0, h1, e0, e1, h2, h3⟩ := h y hy
  have hn := hne y b' hy h0
  exact ⟨b', h0, h1, e0, e1, (h2.far (p := ⟨b, 0, none⟩) hn u0).far (p := ⟨b, 1, none⟩) hn u1, fun h => h3 (by rwa [add_ne' hk] at h)⟩
theorem MkM.lt {b : Nat} (h : MkM T v0 v1 c s W g f w') (hx : g c = some x) (hb : x.1 = some ⟨b, 0, none⟩) : b < w'.heap.size := by
  obtain ⟨b', h0, -, e0, e1, h2, -⟩ := h x hx
  rw [hb] at h0
  cases h0
  exact h2.lt
/-- New memory is another block. -/
theorem MkM.fresh (h : MkM T v0 v1 c s W g f w') (hc : c ≠ i) (x y : Pick) (bx by_ : Nat) (h1 : Fx.upd g i (some ⟨w'.heap.size, 0, none⟩, 0) c = some x) (h2 : Fx.upd g i (some ⟨w'.heap.size, 0, none⟩, 0) i = some y) (e1 : x.1 = some ⟨bx, 0, none⟩) (e2 : y.1 = some ⟨by_, 0, none⟩) : bx ≠ by_ := by
  rw [upd_ne hc] at h1
  rw [Fx.upd_same] at h2
  cases h2
  cases e2
  have := h.lt h1 e1
  omega
theorem MkM.end_ (h : MkM T v0 v1 c s W g f w') (hx : g c = some x) (hf : f s = true) : ∃ b, x.1 = some ⟨b, 0, none⟩ ∧ W.heap.size ≤ b ∧ Blk w' b T #[v0, v1] := by
  obtain ⟨b, h0, h1, e0, e1, h2, h3⟩ := h x hx
  obtain ⟨rfl, rfl⟩ := h3 hf
  exact ⟨b, h0, h1, h2⟩
end

/-- Two orders end alike: what comes behind is walked once. -/
theorem share {α β γ : Type} {Fact : α → β → γ → Prop} {G : Prop} {F : α → β → γ → Prop} (main : (∀ x z w, Fact x z w → F x z w) → G) (rest : ∀ x z w, Fact x z w → F x z w) : G := main rest

end Go.Proofs.Ytfigbdhfmlhjdaa

end
