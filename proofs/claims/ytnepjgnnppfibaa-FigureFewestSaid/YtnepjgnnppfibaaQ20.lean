import Derived.Test.YtnepjgnnppfibaaQ19
import Derived.Test.YtnepjgnnppfibaaQ4
import Derived.Test.YtnepjgnnppfibaaQ6
import Derived.Test.YtnepjgnnppfibaaQ13

section
/- Sessions: copies of heights, what is below, the errors on the reference's side. -/
namespace Go.Proofs.Ytnepjgnnppfibaa
open Go Go.RowKit

theorem eq_nil_ints6 (A : Option Addr) (n c : Nat) (w : World) : (Op.equalIn 10000 22 (.slice A n c) (.slice none 0 0)).run Try.prog w = .ok A.isNone w := by
  show (Op.equalIn (9999 + 1) _ _ _).run _ w = _
  rw [Op.equalIn.eq_def]
  cases A <;> simp [Sem.run_bind, run_underlying Try.underlying22]
@[go_sem ↓ high] theorem eql_nil_ints6 (A : Option Addr) (n c : Nat) (w : World) : (binOp .eql 22 (.slice A n c) (.slice none 0 0)).run Try.prog w = .ok (.bool A.isNone) w := by
  simp only [binOp]
  simp [Op.equal, Op.maxDepth, eq_nil_ints6]
set_option maxRecDepth 100000 in
theorem clone6_any (A : Option Addr) (n c N : Nat) (l : List Int) (w : World) (hx : Reads w N 1 A n (l.map (.int .i64))) (hN : N ≤ w.heap.size) (hn : n ≤ 100000) :
    Calls Try.prog 100 #[.slice A n c] w (CopyPost w 3 1 n (l.map (.int .i64))) := by
  cases A with
  | none =>
    have hn0 : n = 0 := by
      rcases Nat.eq_zero_or_pos n with h | h
      · exact h
      · obtain ⟨_, _, e, _⟩ := hx.2 h
        cases e
    subst hn0
    have hl : l.map (Value.int .i64) = [] := List.length_eq_zero_iff.1 (by simpa using hx.1)
    have HL := Lib.hid hl
    clear hx hl
    go_enter Try.func100, Try.ntmps100
    go_wp2
    go_ret
    exact ⟨none, 0, rfl, Below.refl _ _, by rw [HL.out]; exact Reads.none_, by rw [HL.out]; exact World.ownsRow_nil _ _ _ _⟩
  | some a =>
    obtain ⟨v', W2, hrun, ho, hb⟩ := copy_run (P := Try.prog) 22 22 3 _ 1 8 Try.underlying22 info_int rfl (by omega) w N (some a) n c (l.map (.int .i64)) hx hN (by simp [Value.oneCell']) (by unfold maxLen; omega) (by omega)
    have HRUN := Lib.hid hrun
    have HO := Lib.hid ho
    have HB := Lib.hid hb
    clear hrun ho hb hx
    go_enter Try.func100, Try.ntmps100
    go_wp2_with (first | (at_builtin; refine wpList_app _ W2 v' rfl _ _ _ rfl _ _ rfl rfl HRUN.out ?_))
    go_ret
    exact CopyPost.of HO.out HB.out
theorem own_block6 {w : World} {base n c : Nat} {A : Option Addr} {e : TypeId} {l : List Value} (h : w.ownsRow base e 1 (.slice A n c) n l) (hn : 0 < n) :
    ∃ g ext, A = some ⟨g, 0, none⟩ ∧ base ≤ g ∧ n ≤ c ∧ Blk w g e (l ++ ext).toArray := by
  rcases h.2 with ⟨_, e⟩ | ⟨g, cap, cur, hv, hb, hh, hc, -, hs, ht⟩
  · omega
  · obtain ⟨rfl, -, rfl⟩ : A = some ⟨g, 0, none⟩ ∧ n = n ∧ c = cap := by simpa using hv
    refine ⟨g, cur.toList.drop n, rfl, hb, hc, ?_⟩
    unfold Blk
    rw [Nat.mul_one] at ht
    rw [hh, ← ht, List.take_append_drop, Array.toArray_toList]

/-- Heights are below wanted ones somewhere. -/
def digB (n : Nat) (h v : List Int) : Bool := (List.range n).any fun i => decide (h.getD i 0 < v.getD i 0)
theorem dig_yes {n k : Nat} {h v : List Int} {x y : Int} (hk : k < n) (hx : h[k]? = some x) (hy : v[k]? = some y) (hl : x < y) : digB n h v = true := by
  unfold digB
  rw [List.any_eq_true]
  exact ⟨k, List.mem_range.2 hk, by rw [getD_of hx, getD_of hy]; simpa using hl⟩
theorem dig_no {n : Nat} {h v : List Int} (hn : ∀ k, k < n → v.getD k 0 ≤ h.getD k 0) : digB n h v = false := by
  unfold digB
  rw [List.any_eq_false]
  intro k hk
  simpa using hn k (List.mem_range.1 hk)
theorem dig_false {n : Nat} {h v : List Int} (hd : digB n h v = false) : ∀ k, k < n → v.getD k 0 ≤ h.getD k 0 := by
  intro k hk
  unfold digB at hd
  have := List.any_eq_false.1 hd k (List.mem_range.2 hk)
  simpa using this

set_option maxRecDepth 100000 in
set_option maxHeartbeats 4000000 in
theorem digs_is (A : Option Addr) (n c : Nat) (B : Option Addr) (d : Nat) (h v : List Int) (t : Bool) (ht : digB n h v = t) (N : Nat) (w : World) (hx : Reads w N 1 A n (h.map (.int .i64))) (hy : Reads w N 1 B n (v.map (.int .i64))) (hn : n ≤ 1000) :
    Calls Try.prog 105 #[.slice A n c, .slice B n d] w fun e w' => e = .returned (.bool t) ∧ Below w.heap.size w w' := by
  have HT := Lib.hid ht
  have HX := Lib.hid hx
  have HY := Lib.hid hy
  clear ht hx hy
  go_enter Try.func105, Try.ntmps105
  go_wp2
  go_loopw [9] (fun v_ wr => ∃ k : Nat, k ≤ n ∧ v_ = .int .i64 k ∧ (∃ q, wr = w.drewN q) ∧ ∀ j, j < k → v.getD j 0 ≤ h.getD j 0) (fun v_ _ => n - (intOf v_).toNat)
  case atStart => exact ⟨0, by omega, rfl, ⟨0, rfl⟩, fun j hj => absurd hj (by omega)⟩
  case round =>
    obtain ⟨k, hk, rfl, ⟨q, rfl⟩, hup⟩ := hrel
    have HUP := Lib.hid hup
    clear hup
    by_cases hlt : k < n
    · obtain ⟨xb, xo, x, rfl, hxb, gx, cx⟩ := HX.out.int_ hlt
      obtain ⟨yb, yo, y, rfl, hyb, gy, cy⟩ := HY.out.int_ hlt
      have hkk : (k : Int) < (n : Int) := by omega
      by_cases hl : x < y
      · have hd : decide (x < y) = true := by simpa using hl
        have HTT := Lib.hid ((dig_yes hlt gx gy hl).symm.trans HT.out)
        clear gx gy hl
        go_wp2
        skip
        go_ret
        exact ⟨ret_bool HTT.out, below_drewN (Below.refl _ _) _⟩
      · have hd : decide (x < y) = false := by simpa using hl
        have HNO := Lib.hid (show v.getD k 0 ≤ h.getD k 0 by rw [getD_of gx, getD_of gy]; omega)
        clear gx gy hl
        go_wp2
        skip
        go_roundw
        case rel => exact ⟨k + 1, by omega, by go_num, ⟨q, rfl⟩, fun j hj => by
          by_cases e : j = k
          · rw [e]; exact HNO.out
          · exact HUP.out j (by omega)⟩
        case measure => simp [intOf]; omega
    · obtain rfl : k = n := by omega
      have HTT := Lib.hid ((dig_no HUP.out).symm.trans HT.out)
      go_wp2
      go_ret
      exact ⟨ret_bool HTT.out, below_drewN (Below.refl _ _) _⟩

set_option maxRecDepth 100000 in
set_option maxHeartbeats 4000000 in
theorem rbelow_is (A : Option Addr) (n c : Nat) (B : Option Addr) (d : Nat) (h v : List Int) (t : Bool) (ht : digB n h v = t) (N : Nat) (w : World) (hx : Reads w N 1 A n (h.map (.int .i64))) (hy : Reads w N 1 B n (v.map (.int .i64))) (hn : n ≤ 1000) :
    Calls Try.prog 107 #[.slice A n c, .slice B n d] w fun e w' => e = .returned (.bool t) ∧ Below w.heap.size w w' := by
  have HT := Lib.hid ht
  have HX := Lib.hid hx
  have HY := Lib.hid hy
  clear ht hx hy
  go_enter Try.func107, Try.ntmps107
  go_wp2
  go_loopw [5] (fun v_ wr => ∃ k : Nat, k ≤ n ∧ v_ = .int .i64 k ∧ (∃ q, wr = w.drewN q) ∧ ∀ j, j < k → v.getD j 0 ≤ h.getD j 0) (fun v_ _ => n - (intOf v_).toNat)
  case atStart => exact ⟨0, by omega, rfl, ⟨0, rfl⟩, fun j hj => absurd hj (by omega)⟩
  case round =>
    obtain ⟨k, hk, rfl, ⟨q, rfl⟩, hup⟩ := hrel
    have HUP := Lib.hid hup
    clear hup
    by_cases hlt : k < n
    · obtain ⟨xb, xo, x, rfl, hxb, gx, cx⟩ := HX.out.int_ hlt
      obtain ⟨yb, yo, y, rfl, hyb, gy, cy⟩ := HY.out.int_ hlt
      have hkk : (k : Int) < (n : Int) := by omega
      by_cases hl : x < y
      · have hd : decide (x < y) = true := by simpa using hl
        have HTT := Lib.hid ((dig_yes hlt gx gy hl).symm.trans HT.out)
        clear gx gy hl
        go_wp2
        go_quiet (fail)
        go_wp2
        go_ret
        exact ⟨ret_bool HTT.out, below_drewN (below_drewN (Below.refl _ _) _) _⟩
      · have hd : decide (x < y) = false := by simpa using hl
        have HNO := Lib.hid (show v.getD k 0 ≤ h.getD k 0 by rw [getD_of gx, getD_of gy]; omega)
        clear gx gy hl
        go_wp2
        go_quiet (fail)
        go_wp2
        go_roundw
        case rel => exact ⟨k + 1, by omega, by go_num, ⟨_, rfl⟩, fun j hj => by
          by_cases e : j = k
          · rw [e]; exact HNO.out
          · exact HUP.out j (by omega)⟩
        case measure => simp [intOf]; omega
    · obtain rfl : k = n := by omega
      have HTT := Lib.hid ((dig_no HUP.out).symm.trans HT.out)
      go_wp2
      go_ret
      exact ⟨ret_bool HTT.out, below_drewN (Below.refl _ _) _⟩

set_option maxRecDepth 100000 in
theorem rtwo_is (A : Option Addr) (n c : Nat) (B : Option Addr) (m d : Nat) (h v : List Int) (E : Int) (hE : twoErr h v = E) (w : World) (hx : Reads w w.heap.size 1 A n (h.map (.int .i64))) (hn : n ≤ 9223372036854775807) (hy : Reads w w.heap.size 1 B m (v.map (.int .i64))) (hm : m ≤ 9223372036854775807) :
    Calls Try.prog 106 #[.slice A n c, .slice B m d] w fun e w' => e = .returned (.int .i64 E) ∧ Below w.heap.size w w' := by
  have l1 : h.length = n := by have := hx.1; simpa using this
  have l2 : v.length = m := by have := hy.1; simpa using this
  obtain ⟨E1, hE1⟩ : ∃ E, heightsErr h = E := ⟨_, rfl⟩
  have HE1 := Lib.hid hE1
  have HX := Lib.hid hx
  have HY := Lib.hid hy
  unfold twoErr at hE
  rw [l1, l2, hE1] at hE
  by_cases h0 : E1 = 0
  rotate_left
  · rw [if_pos h0] at hE
    subst hE
    have e1 : (E1 != 0) = true := by simpa using h0
    clear h0 hE1 l1 l2 hx hy
    go_enter Try.func106, Try.ntmps106
    go_wp2_with fail
    refine (rheights_is A n c h E1 HE1.out _ HX.out).mono ?_
    rintro e w1 ⟨rfl, hb⟩
    have HB1 := Lib.hid (show Below w.heap.size w w1 from step_below hb (by repeat' (first | exact Below.refl _ _ | exact HB0.out | refine below_drewN ?_ _ | refine Below.drew ?_ | refine Below.alloc ?_ (by first | omega | (simp; done) | (simp; omega) | (simp [World.setCell]; omega)) _ | refine Below.setCell ?_ (by first | omega | (simp; done) | (simp; omega)) _ | assumption)))
    have hz1 := hb.size
    try simp only [World.size_alloc, World.drewN, World.drew] at hz1
    clear hb
    go_wp2
    go_ret
    exact ⟨rfl, HB1.out⟩
  subst h0
  rw [if_neg (by simp)] at hE
  by_cases h1 : m = n
  rotate_left
  · rw [if_pos h1] at hE
    subst hE
    have e1 : ((m : Int) != (n : Int)) = true := by simp; omega
    clear h1 hE1 l1 l2 hx hy
    go_enter Try.func106, Try.ntmps106
    go_wp2_with fail
    refine (rheights_is A n c h 0 HE1.out _ HX.out).mono ?_
    rintro e w1 ⟨rfl, hb⟩
    have HB1 := Lib.hid (show Below w.heap.size w w1 from step_below hb (by repeat' (first | exact Below.refl _ _ | exact HB0.out | refine below_drewN ?_ _ | refine Below.drew ?_ | refine Below.alloc ?_ (by first | omega | (simp; done) | (simp; omega) | (simp [World.setCell]; omega)) _ | refine Below.setCell ?_ (by first | omega | (simp; done) | (simp; omega)) _ | assumption)))
    have hz1 := hb.size
    try simp only [World.size_alloc, World.drewN, World.drew] at hz1
    clear hb
    go_wp2
    go_ret
    exact ⟨rfl, HB1.out⟩
  subst h1
  rw [if_neg (by simp)] at hE
  have HE := Lib.hid hE
  have e1 : ((m : Int) != (m : Int)) = false := by simp
  clear hE hE1 l1 l2 hx hy
  go_enter Try.func106, Try.ntmps106
  go_wp2_with fail
  refine (rheights_is A m c h 0 HE1.out _ HX.out).mono ?_
  rintro e w1 ⟨rfl, hb⟩
  have HB1 := Lib.hid (show Below w.heap.size w w1 from step_below hb (by repeat' (first | exact Below.refl _ _ | exact HB0.out | refine below_drewN ?_ _ | refine Below.drew ?_ | refine Below.alloc ?_ (by first | omega | (simp; done) | (simp; omega) | (simp [World.setCell]; omega)) _ | refine Below.setCell ?_ (by first | omega | (simp; done) | (simp; omega)) _ | assumption)))
  have hz1 := hb.size
  try simp only [World.size_alloc, World.drewN, World.drew] at hz1
  clear hb
  go_wp2_with fail
  refine (rheights_is B m d v E HE.out _ ((HY.out.below HB1.out).more HB1.out.size)).mono ?_
  rintro e w2 ⟨rfl, hb⟩
  have HB2 := Lib.hid (show Below w.heap.size w w2 from step_below hb (by repeat' (first | exact Below.refl _ _ | exact HB1.out | refine below_drewN ?_ _ | refine Below.drew ?_ | refine Below.alloc ?_ (by first | omega | (simp; done) | (simp; omega) | (simp [World.setCell]; omega)) _ | refine Below.setCell ?_ (by first | omega | (simp; done) | (simp; omega)) _ | assumption)))
  have hz2 := hb.size
  try simp only [World.size_alloc, World.drewN, World.drew] at hz2
  clear hb
  go_wp2
  go_ret
  exact ⟨rfl, HB2.out⟩

set_option maxRecDepth 100000 in
set_option maxHeartbeats 4000000 in
theorem rwear_is (m : Nat) (A : Option Addr) (n c : Nat) (l : List Int) (E : Int) (hE : wearErr m l = E) (w : World) (hx : Reads w w.heap.size 1 A n (l.map (.int .i64))) (hn : n ≤ 9223372036854775807) :
    Calls Try.prog 102 #[.int .i64 (m : Int), .slice A n c] w fun e w' => e = .returned (.int .i64 E) ∧ w = w' := by
  have l1 : l.length = n := by have := hx.1; simpa using this
  have HX := Lib.hid hx
  clear hx
  by_cases h1 : n = m
  rotate_left
  · have HEE := Lib.hid (show (10 : Int) = E by rw [← hE]; unfold wearErr; rw [l1, if_pos h1])
    have e1 : ((n : Int) != (m : Int)) = true := by simp; omega
    clear h1 hE l1
    go_enter Try.func102, Try.ntmps102
    go_wp2
    go_ret
    exact ⟨ret_int HEE.out, rfl⟩
  subst h1
  have HE := Lib.hid hE
  have HL := Lib.hid l1
  have e1 : ((n : Int) != (n : Int)) = false := by simp
  clear hE l1
  go_enter Try.func102, Try.ntmps102
  go_wp2
  go_loopw [5] (fun v wr => ∃ k : Nat, k ≤ n ∧ v = .int .i64 k ∧ w = wr ∧ ∀ z ∈ l.take k, withinB z 0 100000 = true) (fun v _ => n - (intOf v).toNat)
  case atStart => exact ⟨0, by omega, rfl, by first | trivial | rfl, by simp⟩
  case round =>
    obtain ⟨k, hk, rfl, rfl, hup⟩ := hrel
    have HUP := Lib.hid hup
    clear hup
    by_cases hlt : k < n
    · obtain ⟨xb, xo, x, rfl, hxb, gx, cx⟩ := HX.out.int_ hlt
      have hkk : (k : Int) < (n : Int) := by omega
      obtain ⟨t, ht⟩ : ∃ t, withinB x 0 100000 = t := ⟨_, rfl⟩
      have HT := Lib.hid ht
      have HGX := Lib.hid gx
      clear ht gx
      go_wp2_with fail
      refine (withinref_is _ _ _ t HT.out _).mono ?_
      rintro e w' ⟨rfl, rfl⟩
      cases t
      · have HEE := Lib.hid (show (2 : Int) = E by
          rw [← HE.out]; unfold wearErr
          rw [HL.out, if_neg (by simp), if_pos]
          rw [List.any_eq_true]
          exact ⟨x, List.mem_of_getElem? HGX.out, by rw [HT.out]; rfl⟩)
        go_wp2
        go_ret
        exact ⟨ret_int HEE.out, rfl⟩
      · go_wp2
        go_roundw
        case rel => exact ⟨k + 1, by omega, by go_num, by first | trivial | rfl, take_all HGX.out HUP.out HT.out⟩
        case measure => simp [intOf]; omega
    · obtain rfl : k = n := by omega
      have HEE := Lib.hid (show (0 : Int) = E by
        rw [← HE.out]; unfold wearErr
        rw [HL.out, if_neg (by simp), if_neg]
        rw [Bool.not_eq_true, List.any_eq_false]
        intro z hz
        rw [HUP.out z (by rw [List.take_of_length_le (by rw [HL.out]; omega)]; exact hz)]
        simp)
      go_wp2
      go_ret
      exact ⟨ret_int HEE.out, rfl⟩
end Go.Proofs.Ytnepjgnnppfibaa

end

section
/- Sessions: plain models; what remains, and whether sessions dig. -/
namespace Go.Proofs.Ytnepjgnnppfibaa
open Go Go.RowKit

/-- A list by its values. -/
def tabL (n : Nat) (f : Nat → Int) : List Int := (List.range n).map f
theorem tabL_len (n : Nat) (f : Nat → Int) : (tabL n f).length = n := by unfold tabL; simp
theorem tabL_get {n i : Nat} (f : Nat → Int) (h : i < n) : (tabL n f)[i]? = some (f i) := by unfold tabL; rw [List.getElem?_map, List.getElem?_range h]; rfl
theorem tabL_getD {n i : Nat} (f : Nat → Int) (h : i < n) : (tabL n f).getD i 0 = f i := getD_of (tabL_get f h)
theorem tabL_congr {n : Nat} {f g : Nat → Int} (h : ∀ i, i < n → f i = g i) : tabL n f = tabL n g := by
  unfold tabL
  exact List.map_congr_left fun i hi => h i (List.mem_range.1 hi)
theorem tabL_of {n : Nat} {l : List Int} (h : l.length = n) : l = tabL n fun i => l.getD i 0 := by
  apply List.ext_getElem?
  intro i
  by_cases hi : i < n
  · rw [tabL_get _ hi, List.getElem?_eq_getElem (by omega), getD_of (List.getElem?_eq_getElem (by omega))]
  · rw [List.getElem?_eq_none (by omega), List.getElem?_eq_none (by rw [tabL_len]; omega)]
theorem tabL_set {n j : Nat} (f : Nat → Int) (z : Int) : (tabL n f).set j z = tabL n fun i => if i = j then z else f i := by
  apply List.ext_getElem?
  intro i
  by_cases hi : i < n
  · rw [tabL_get _ hi, List.getElem?_set]
    by_cases e : j = i
    · subst e; rw [if_pos rfl, if_pos (by rw [tabL_len]; exact hi), if_pos rfl]
    · rw [if_neg e, if_neg (fun h => e h.symm), tabL_get _ hi]
  · rw [List.getElem?_eq_none (by rw [List.length_set, tabL_len]; omega), List.getElem?_eq_none (by rw [tabL_len]; omega)]
section
variable {w : World} {g n : Nat} {f : Nat → Int} {ext : List Value}
/-- A block that holds a list. -/
def BlkL (w : World) (g n : Nat) (f : Nat → Int) (ext : List Value) : Prop := Blk w g 3 ((tabL n f).map (Value.int .i64) ++ ext).toArray
theorem BlkL.cell (h : BlkL w g n f ext) {j : Nat} (hj : j < n) : w.cell? ⟨g, j, none⟩ = some (.int .i64 (f j)) := by
  rw [Blk.cell h j]
  have : ((tabL n f).map (Value.int .i64))[j]? = some (.int .i64 (f j)) := by rw [List.getElem?_map, tabL_get f hj]; rfl
  simp [List.getElem?_append_left (List.getElem?_eq_some_iff.1 this).1, this]
theorem BlkL.set (h : BlkL w g n f ext) {j : Nat} (hj : j < n) (z : Int) : BlkL (w.setCell ⟨g, j, none⟩ (.int .i64 z)) g n (fun i => if i = j then z else f i) ext := by
  have h1 := Blk.set_ h j (.int .i64 z)
  unfold BlkL
  rw [List.setIfInBounds_toArray, List.set_append_left _ _ (by rw [List.length_map, tabL_len]; exact hj), ← List.map_set, tabL_set] at h1
  exact h1
theorem BlkL.congr {f' : Nat → Int} (h : BlkL w g n f ext) (e : ∀ i, i < n → f i = f' i) : BlkL w g n f' ext := by unfold BlkL at h ⊢; rw [← tabL_congr e]; exact h
theorem BlkL.reads (h : BlkL w g n f ext) : Reads w w.heap.size 1 (some ⟨g, 0, none⟩) n ((tabL n f).map (.int .i64)) :=
  ⟨by rw [List.length_map, tabL_len, Nat.mul_one], fun _ => ⟨g, 0, rfl, Blk.lt h, fun j u hu => by
    rw [Nat.zero_add, Blk.cell h j]
    have := (List.getElem?_eq_some_iff.1 hu).1
    simp [List.getElem?_append_left this, hu]⟩⟩
end

theorem getD_in {l : List Int} {i : Nat} {lo hi : Int} (h0 : lo ≤ 0 ∧ 0 ≤ hi) (h : ∀ z ∈ l, lo ≤ z ∧ z ≤ hi) : lo ≤ l.getD i 0 ∧ l.getD i 0 ≤ hi := by
  rw [List.getD_eq_getElem?_getD]
  cases hg : l[i]? with
  | none => exact h0
  | some z => exact h z (List.mem_of_getElem? hg)
/-- What is left of a zone behind so many sessions. -/
def leftF (h : List Int) (ws : List (List Int)) (k i : Nat) : Int := h.getD i 0 - sumN (fun q => (ws.getD q []).getD i 0) k
theorem leftF_zero (h : List Int) (ws : List (List Int)) (i : Nat) : leftF h ws 0 i = h.getD i 0 := by unfold leftF sumN; omega
theorem leftF_succ (h : List Int) (ws : List (List Int)) (k i : Nat) : leftF h ws (k + 1) i = leftF h ws k i - (ws.getD k []).getD i 0 := by
  unfold leftF
  show _ - (sumN _ k + (ws.getD k []).getD i 0) = _
  omega
theorem leftF_in {h : List Int} {ws : List (List Int)} {n k i : Nat} (hh : ∀ z ∈ h, -100000 ≤ z ∧ z ≤ 100000) (hw : ∀ q, q < k → wearErr n (ws.getD q []) = 0) (hk : k ≤ 100) : -20000000 ≤ leftF h ws k i ∧ leftF h ws k i ≤ 100000 := by
  have h1 := sumN_in k (f := fun q => (ws.getD q []).getD i 0) (lo := 0) (hi := 100000) (fun q hq => by
    have h2 := (wear_ok (hw q hq)).2
    exact getD_in (by omega) h2) k (Nat.le_refl _)
  have h3 : -100000 ≤ h.getD i 0 ∧ h.getD i 0 ≤ 100000 := getD_in (by omega) hh
  unfold leftF
  omega
/-- The errors of sessions. -/
def leftErr (h : List Int) (ws : List (List Int)) : Int := if heightsErr h ≠ 0 then heightsErr h else if 100 < ws.length then 8 else firstErr (wearErr h.length) ws
/-- What remains, or an error. -/
def RemPost (h : List Int) (ws : List (List Int)) (n : Nat) (E : Int) (w : World) (e : Ending) (w' : World) : Prop :=
  Below w.heap.size w w' ∧ ((E ≠ 0 ∧ e = .returned (.tuple #[.slice none 0 0, .int .i64 E])) ∨ (E = 0 ∧ ∃ A c, e = .returned (.tuple #[.slice A n c, .int .i64 0]) ∧ Reads w' w'.heap.size 1 A n ((tabL n (leftF h ws ws.length)).map (.int .i64))))
theorem RemPost.bad {h : List Int} {ws : List (List Int)} {n : Nat} {E : Int} {w w' : World} {e : Ending} (h0 : E ≠ 0) (he : e = .returned (.tuple #[.slice none 0 0, .int .i64 E])) (hb : Below w.heap.size w w') : RemPost h ws n E w e w' := ⟨hb, .inl ⟨h0, he⟩⟩
theorem RemPost.ok {h : List Int} {ws : List (List Int)} {n : Nat} {E : Int} {w w' : World} {e : Ending} {A : Option Addr} {c : Nat} (h0 : 0 = E) (he : e = .returned (.tuple #[.slice A n c, .int .i64 0])) (hb : Below w.heap.size w w') (hr : Reads w' w'.heap.size 1 A n ((tabL n (leftF h ws ws.length)).map (.int .i64))) : RemPost h ws n E w e w' := ⟨hb, .inr ⟨h0.symm, A, c, he, hr⟩⟩

end Go.Proofs.Ytnepjgnnppfibaa

end

section
/- Sessions that do not dig: the program's check. -/
namespace Go.Proofs.Ytnepjgnnppfibaa
open Go Go.RowKit

theorem rfind_at {n k : Nat} {p : Nat → Bool} (hk : k < n) (h : ∀ j, j < k → p j = false) (hp : p k = true) : (List.range n).find? p = some k := by
  rw [List.find?_eq_some_iff_append]
  refine ⟨hp, List.range k, (List.range n).drop (k + 1), ?_, fun a ha => ?_⟩
  · have e : (List.range n).take k = List.range k := by rw [List.take_range]; congr 1; omega
    conv => lhs; rw [← List.take_append_drop k (List.range n), e]
    congr 1
    rw [List.drop_eq_getElem_cons (by simpa using hk)]
    simp
  · have := h a (List.mem_range.1 ha)
    simp [this]
theorem rfind_none {n : Nat} {p : Nat → Bool} (h : ∀ j, j < n → p j = false) : (List.range n).find? p = none := by
  rw [List.find?_eq_none]
  intro a ha
  rw [h a (List.mem_range.1 ha)]
  simp
/-- A session that is refused. -/
def sessBad (n : Nat) (h v : List Int) (ws : List (List Int)) (k : Nat) : Bool := decide (wearErr n (ws.getD k []) ≠ 0) || digB n (tabL n (leftF h ws (k + 1))) v
/-- The number and the error of sessions. -/
def sessF (h v : List Int) (ws : List (List Int)) : Int × Int :=
  if twoErr h v ≠ 0 then (0, twoErr h v) else if 100 < ws.length then (0, 8) else if digB h.length h v then (-1, 26) else
    match (List.range ws.length).find? (sessBad h.length h v ws) with
    | some k => ((k : Int), if wearErr h.length (ws.getD k []) ≠ 0 then wearErr h.length (ws.getD k []) else 26)
    | none => (0, 0)
section
variable {h v : List Int} {ws : List (List Int)} {n k : Nat}
theorem sess_two {E : Int} (hE : twoErr h v = E) (h0 : E ≠ 0) : sessF h v ws = (0, E) := by unfold sessF; rw [hE, if_pos h0]
theorem sess_many (hE : twoErr h v = 0) (hl : 100 < ws.length) : sessF h v ws = (0, 8) := by unfold sessF; rw [hE, if_neg (by simp), if_pos hl]
theorem sess_dug (hE : twoErr h v = 0) (hl : ¬ 100 < ws.length) (hn : h.length = n) (hd : digB n h v = true) : sessF h v ws = (-1, 26) := by unfold sessF; rw [hE, if_neg (by simp), if_neg hl, hn, if_pos hd]
theorem sess_at (hE : twoErr h v = 0) (hl : ¬ 100 < ws.length) (hn : h.length = n) (hd : digB n h v = false) (hk : k < ws.length) (hb : ∀ q, q < k → sessBad n h v ws q = false) (hs : sessBad n h v ws k = true) : sessF h v ws = ((k : Int), if wearErr n (ws.getD k []) ≠ 0 then wearErr n (ws.getD k []) else 26) := by
  unfold sessF
  rw [hE, if_neg (by simp), if_neg hl, hn, if_neg (by rw [hd]; simp), rfind_at hk hb hs]
theorem sess_none (hE : twoErr h v = 0) (hl : ¬ 100 < ws.length) (hn : h.length = n) (hd : digB n h v = false) (hb : ∀ q, q < ws.length → sessBad n h v ws q = false) : sessF h v ws = (0, 0) := by
  unfold sessF
  rw [hE, if_neg (by simp), if_neg hl, hn, if_neg (by rw [hd]; simp), rfind_none hb]
theorem bad_wear {q : Nat} (hb : sessBad n h v ws q = false) : wearErr n (ws.getD q []) = 0 := by
  unfold sessBad at hb
  rw [Bool.or_eq_false_iff] at hb
  simpa using hb.1
end

set_option maxRecDepth 100000 in
set_option maxHeartbeats 4000000 in
theorem checksessions_is (A : Option Addr) (n c : Nat) (V : Option Addr) (nv cv : Nat) (B : Option Addr) (m d : Nat) (h v : List Int) (t : List TRow) (R : Int × Int) (hR : sessF h v (t.map (·.xs)) = R) (w : World) (hx : Reads w w.heap.size 1 A n (h.map (.int .i64))) (hv : Reads w w.heap.size 1 V nv (v.map (.int .i64))) (hy : ReadsT w w.heap.size B m t) (hn : n ≤ 1000) (hnv : nv ≤ 1000) (hm : m ≤ 1000) :
    Calls Try.prog 65 #[.slice A n c, .slice V nv cv, .slice B m d] w fun e w' => e = .returned (.tuple #[.int .i64 R.1, .int .i64 R.2]) ∧ Below w.heap.size w w' := by
  have hl : h.length = n := by have := hx.1; simpa using this
  have hlv : v.length = nv := by have := hv.1; simpa using this
  have htl : t.length = m := hy.len
  have HX := Lib.hid hx
  have HV := Lib.hid hv
  have HY := Lib.hid hy
  have HL := Lib.hid hl
  have HTL := Lib.hid htl
  have HR := Lib.hid hR
  obtain ⟨E1, hE1⟩ : ∃ E, twoErr h v = E := ⟨_, rfl⟩
  have HE1 := Lib.hid hE1
  by_cases h0 : E1 = 0
  rotate_left
  · have HRR := Lib.hid (hR.symm.trans (sess_two hE1 h0))
    have e1 : (E1 != 0) = true := by simpa using h0
    clear h0 hE1 hl hlv htl hx hv hy hR
    go_enter Try.func65, Try.ntmps65
    go_wp2_with fail
    refine (both_is A n c V nv cv h v E1 HE1.out _ HX.out (by omega) HV.out (by omega)).mono ?_
    rintro e w1 ⟨rfl, hb⟩
    have HB1 := Lib.hid (show Below w.heap.size w w1 from step_below hb (by repeat' (first | exact Below.refl _ _ | exact HB0.out | refine below_drewN ?_ _ | refine Below.drew ?_ | refine Below.alloc ?_ (by first | omega | (simp; done) | (simp; omega) | (simp [World.setCell]; omega)) _ | refine Below.setCell ?_ (by first | omega | (simp; done) | (simp; omega)) _ | assumption)))
    have hz1 := hb.size
    try simp only [World.size_alloc, World.drewN, World.drew] at hz1
    clear hb
    go_wp2
    go_ret2
    exact ⟨by rw [HRR.out]; rfl, HB1.out⟩
  subst h0
  have hwl : (t.map (·.xs)).length = m := by rw [List.length_map, htl]
  by_cases h100 : 100 < m
  · have HRR := Lib.hid (hR.symm.trans (sess_many hE1 (by rw [hwl]; exact h100)))
    have e1 : decide ((100 : Int) < (m : Int)) = true := by simp; omega
    clear h100 hE1 hl hlv htl hx hv hy hR hwl
    go_enter Try.func65, Try.ntmps65
    go_wp2_with fail
    refine (both_is A n c V nv cv h v 0 HE1.out _ HX.out (by omega) HV.out (by omega)).mono ?_
    rintro e w1 ⟨rfl, hb⟩
    have HB1 := Lib.hid (show Below w.heap.size w w1 from step_below hb (by repeat' (first | exact Below.refl _ _ | exact HB0.out | refine below_drewN ?_ _ | refine Below.drew ?_ | refine Below.alloc ?_ (by first | omega | (simp; done) | (simp; omega) | (simp [World.setCell]; omega)) _ | refine Below.setCell ?_ (by first | omega | (simp; done) | (simp; omega)) _ | assumption)))
    have hz1 := hb.size
    try simp only [World.size_alloc, World.drewN, World.drew] at hz1
    clear hb
    go_wp2
    go_ret2
    exact ⟨by rw [HRR.out]; rfl, HB1.out⟩
  have e1 : decide ((100 : Int) < (m : Int)) = false := by simp; omega
  have HM := Lib.hid (show ¬ 100 < (t.map (·.xs)).length by rw [hwl]; exact h100)
  have HWL := Lib.hid hwl
  obtain ⟨hE0, hvh, -⟩ := two_ok hE1
  obtain ⟨n1, n2, hh⟩ := heights_ok hE0
  rw [hl] at n1 n2
  have hnn : nv = n := by omega
  subst hnn
  have HHH := Lib.hid hh
  obtain ⟨t0, ht0⟩ : ∃ t, digB nv h v = t := ⟨_, rfl⟩
  have HT0 := Lib.hid ht0
  cases t0
  rotate_left
  · have HRR := Lib.hid (hR.symm.trans (sess_dug hE1 HM.out hl ht0))
    clear h100 hE1 hl hlv htl hx hv hy hR hwl hE0 hvh hh ht0
    go_enter Try.func65, Try.ntmps65
    go_wp2_with fail
    refine (both_is A nv c V nv cv h v 0 HE1.out _ HX.out (by omega) HV.out (by omega)).mono ?_
    rintro e w1 ⟨rfl, hb⟩
    have HB1 := Lib.hid (show Below w.heap.size w w1 from step_below hb (by repeat' (first | exact Below.refl _ _ | exact HB0.out | refine below_drewN ?_ _ | refine Below.drew ?_ | refine Below.alloc ?_ (by first | omega | (simp; done) | (simp; omega) | (simp [World.setCell]; omega)) _ | refine Below.setCell ?_ (by first | omega | (simp; done) | (simp; omega)) _ | assumption)))
    have hz1 := hb.size
    try simp only [World.size_alloc, World.drewN, World.drew] at hz1
    clear hb
    go_wp2_with fail
    refine (digs_is A nv c V cv h v true HT0.out w.heap.size _ (HX.out.below HB1.out) (HV.out.below HB1.out) (by omega)).mono ?_
    rintro e w2 ⟨rfl, hb⟩
    have HB2 := Lib.hid (show Below w.heap.size w w2 from step_below hb (by repeat' (first | exact Below.refl _ _ | exact HB1.out | refine below_drewN ?_ _ | refine Below.drew ?_ | refine Below.alloc ?_ (by first | omega | (simp; done) | (simp; omega) | (simp [World.setCell]; omega)) _ | refine Below.setCell ?_ (by first | omega | (simp; done) | (simp; omega)) _ | assumption)))
    have hz2 := hb.size
    try simp only [World.size_alloc, World.drewN, World.drew] at hz2
    clear hb
    go_wp2
    go_ret2
    exact ⟨by rw [HRR.out]; rfl, HB2.out⟩
  clear hE1 hl hlv htl hx hv hy hR hwl hE0 hvh hh ht0
  go_enter Try.func65, Try.ntmps65
  go_wp2_with fail
  refine (both_is A nv c V nv cv h v 0 HE1.out _ HX.out (by omega) HV.out (by omega)).mono ?_
  rintro e w1 ⟨rfl, hb⟩
  have HB1 := Lib.hid (show Below w.heap.size w w1 from step_below hb (by repeat' (first | exact Below.refl _ _ | exact HB0.out | refine below_drewN ?_ _ | refine Below.drew ?_ | refine Below.alloc ?_ (by first | omega | (simp; done) | (simp; omega) | (simp [World.setCell]; omega)) _ | refine Below.setCell ?_ (by first | omega | (simp; done) | (simp; omega)) _ | assumption)))
  have hz1 := hb.size
  try simp only [World.size_alloc, World.drewN, World.drew] at hz1
  clear hb
  go_wp2_with fail
  refine (digs_is A nv c V cv h v false HT0.out w.heap.size _ (HX.out.below HB1.out) (HV.out.below HB1.out) (by omega)).mono ?_
  rintro e w2 ⟨rfl, hb⟩
  have HB2 := Lib.hid (show Below w.heap.size w w2 from step_below hb (by repeat' (first | exact Below.refl _ _ | exact HB1.out | refine below_drewN ?_ _ | refine Below.drew ?_ | refine Below.alloc ?_ (by first | omega | (simp; done) | (simp; omega) | (simp [World.setCell]; omega)) _ | refine Below.setCell ?_ (by first | omega | (simp; done) | (simp; omega)) _ | assumption)))
  have hz2 := hb.size
  try simp only [World.size_alloc, World.drewN, World.drew] at hz2
  clear hb
  go_wp2_with fail
  refine (clone6_any A nv c w2.heap.size h _ ((HX.out.below HB2.out).more HB2.out.size) (Nat.le_refl _) (by omega)).mono ?_
  rintro e w3 ⟨A1, c1, rfl, hb, hr, ho⟩
  have HB3 := Lib.hid (show Below w.heap.size w w3 from step_below hb (by repeat' (first | exact Below.refl _ _ | exact HB2.out | refine below_drewN ?_ _ | refine Below.drew ?_ | refine Below.alloc ?_ (by first | omega | (simp; done) | (simp; omega) | (simp [World.setCell]; omega)) _ | refine Below.setCell ?_ (by first | omega | (simp; done) | (simp; omega)) _ | assumption)))
  have hz3 := hb.size
  try simp only [World.size_alloc, World.drewN, World.drew] at hz3
  clear hb
  clear hr
  obtain ⟨g, ext, rfl, hg, hnc, hblk⟩ := own_block6 ho (by omega)
  have hwg : w.heap.size ≤ g := Nat.le_trans HB2.out.size hg
  have hgl : g < w3.heap.size := hblk.lt
  have HBL := Lib.hid (show BlkL w3 g nv (leftF h (t.map (·.xs)) 0) ext from by
    unfold BlkL
    rw [show tabL nv (leftF h (t.map (·.xs)) 0) = h from by
      rw [tabL_congr (g := fun i => h.getD i 0) (fun i _ => leftF_zero _ _ _)]; exact (tabL_of HL.out).symm]
    exact hblk)
  clear ho hblk
  go_wp2_with fail
  go_loopw [31] (fun x wr => ∃ k : Nat, k ≤ m ∧ x = .int .i64 k ∧ Below g w3 wr ∧ BlkL wr g nv (leftF h (t.map (·.xs)) k) ext ∧ ∀ q, q < k → sessBad nv h v (t.map (·.xs)) q = false) (fun x _ => m - (intOf x).toNat)
  case atStart => exact ⟨0, by omega, rfl, Below.refl _ _, HBL.out, fun q hq => absurd hq (by omega)⟩
  case round =>
    obtain ⟨k, hk, rfl, hb, hbl, hup⟩ := hrel
    obtain ⟨w4, hnm⟩ : ∃ z : World, z = wr := ⟨_, rfl⟩
    subst hnm
    have HBR := Lib.hid hb
    have HBLK := Lib.hid hbl
    have HUP := Lib.hid hup
    have hb4 := HB3.out.trans (hb.mono hwg)
    clear hb hbl hup
    have HB4 := Lib.hid hb4
    clear hb4
    by_cases hlt : k < m
    rotate_left
    · obtain rfl : m = k := by omega
      have HRR := Lib.hid (HR.out.symm.trans (sess_none HE1.out HM.out HL.out HT0.out (by rw [HWL.out]; exact HUP.out)))
      go_wp2
      go_ret2
      exact ⟨by rw [HRR.out]; rfl, HB4.out⟩
    have hkk : (k : Int) < (m : Int) := by omega
    obtain ⟨bt, ot, r, rfl, hbt, hrt, cr, ⟨hrc1, hrc2⟩, hrl, hrr⟩ := (HY.out.below HB4.out).at_ hlt
    have hwk : (t.map (·.xs)).getD k [] = r.xs := getD_of (by rw [List.getElem?_map, hrt]; rfl)
    have HWK := Lib.hid hwk
    have HRR0 := Lib.hid hrr
    obtain ⟨E2, hE2⟩ : ∃ E, wearErr nv r.xs = E := ⟨_, rfl⟩
    have HEW := Lib.hid hE2
    obtain ⟨RA, RN, RC, xs⟩ := r
    simp only at cr hrc1 hrc2 hrl hE2
    clear hwk hrt hrr hE2
    have HA4 := Lib.hid (show Below w4.heap.size w4 w4 from Below.refl _ _)
    go_wp2_with fail
    refine (wear_is RA RN RC xs nv E2 HEW.out _ (HRR0.out.more HB4.out.size) (by omega)).mono ?_
    rintro e w5 ⟨rfl, hb⟩
    have HB5 := Lib.hid (show Below w.heap.size w w5 from step_below hb (by repeat' (first | exact Below.refl _ _ | exact HB4.out | refine below_drewN ?_ _ | refine Below.drew ?_ | refine Below.alloc ?_ (by first | omega | (simp; done) | (simp; omega) | (simp [World.setCell]; omega)) _ | refine Below.setCell ?_ (by first | omega | (simp; done) | (simp; omega)) _ | assumption)))
    have HA5 := Lib.hid (step_below hb HA4.out)
    clear HA4
    have hz5 := hb.size
    try simp only [World.size_alloc, World.drewN, World.drew] at hz5
    clear hb
    have hb45 : Below w4.heap.size w4 w5 := HA5.out
    by_cases h0 : E2 = 0
    rotate_left
    · have HRR := Lib.hid (HR.out.symm.trans (sess_at (k := k) HE1.out HM.out HL.out HT0.out (by rw [HWL.out]; exact hlt) HUP.out (by unfold sessBad; rw [HWK.out]; show (decide (wearErr nv xs ≠ 0) || _) = true; rw [HEW.out]; simp [h0])))
      have HV2 := Lib.hid (show (if wearErr nv ((t.map (·.xs)).getD k []) ≠ 0 then wearErr nv ((t.map (·.xs)).getD k []) else 26) = E2 by
        rw [HWK.out]; show (if wearErr nv xs ≠ 0 then wearErr nv xs else 26) = E2; rw [HEW.out, if_pos h0])
      have e2 : (E2 != 0) = true := by simpa using h0
      clear h0
      go_wp2
      go_ret2
      exact ⟨by rw [HRR.out, HV2.out]; rfl, HB5.out⟩
    subst h0
    obtain ⟨hxl, hxs⟩ := wear_ok HEW.out
    obtain rfl : RN = nv := hrl.symm.trans hxl
    have HXS := Lib.hid hxs
    have hgl4 : g < w4.heap.size := Blk.lt HBLK.out
    have HBL5 := Lib.hid (show BlkL w5 g RN (leftF h (t.map (·.xs)) k) ext from Blk.below HBLK.out hb45 hgl4)
    have HBR5 := Lib.hid (HBR.out.trans (hb45.mono (by omega)))
    have hxr := (HRR0.out.below (Below.mono hb45 (show w.heap.size ≤ w4.heap.size by omega)))
    have HXR := Lib.hid hxr
    clear hb45 hxs hxr hxl hrl
    go_wp2_with fail
    go_loopw [46] (fun x wr => ∃ j : Nat, j ≤ RN ∧ x = .int .i64 j ∧ Below g w5 wr ∧ BlkL wr g RN (fun i => if i < j then leftF h (t.map (·.xs)) (k + 1) i else leftF h (t.map (·.xs)) k i) ext) (fun x _ => RN - (intOf x).toNat)
    case atStart => exact ⟨0, by omega, rfl, Below.refl _ _, HBL5.out.congr fun i hi => by rw [if_neg (by omega)]⟩
    case round =>
      obtain ⟨j, hj, rfl, hb, hbl⟩ := hrel
      obtain ⟨w6, hnm⟩ : ∃ z : World, z = wr := ⟨_, rfl⟩
      subst hnm
      have HBJ := Lib.hid hb
      have HBLJ := Lib.hid hbl
      by_cases hjt : j < RN
      · have hjj : (j : Int) < (RN : Int) := by omega
        obtain ⟨xb, xo, x, rfl, hxb, gx, cx⟩ := (HXR.out.below (hb.mono hwg)).int_ hjt
        have hc := hbl.cell hjt
        have hf := Blk.frozen hbl j
        simp only [Nat.lt_irrefl, if_false] at hc
        obtain ⟨y, hy⟩ : ∃ y, leftF h (t.map (·.xs)) k j = y := ⟨_, rfl⟩
        rw [hy] at hc
        have hyin := leftF_in (n := RN) (i := j) HHH.out (fun q hq => bad_wear (HUP.out q hq)) (show k ≤ 100 by omega)
        rw [hy] at hyin
        have hxin := HXS.out x (List.mem_of_getElem? gx)
        have e3 := IntWalk.i64_in (y - x) ⟨by omega, by omega⟩
        have hgl5 : g < w6.heap.size := Blk.lt hbl
        have HSET := Lib.hid ((hbl.set hjt (y - x)).congr (f' := fun i => if i < j + 1 then leftF h (t.map (·.xs)) (k + 1) i else leftF h (t.map (·.xs)) k i) fun i hi => by
          by_cases e : i = j
          · subst e
            rw [if_pos rfl, if_pos (by omega), leftF_succ, hy, HWK.out]
            show y - x = y - xs.getD i 0
            rw [getD_of gx]
          · rw [if_neg e]
            by_cases e2 : i < j
            · rw [if_pos e2, if_pos (by omega)]
            · rw [if_neg e2, if_neg (by omega)])
        clear hb hbl gx hy hyin hxin
        go_wp2
        go_roundw
        case rel => exact ⟨j + 1, by omega, by go_num, HBJ.out.setCell (p := ⟨g, j, none⟩) (Nat.le_refl _) _, HSET.out⟩
        case measure => simp [intOf]; omega
      · obtain rfl : RN = j := by omega
        have hb6 := HB5.out.trans (hb.mono hwg)
        have HBN := Lib.hid (hbl.congr (f' := leftF h (t.map (·.xs)) (k + 1)) fun i hi => by rw [if_pos hi])
        have hgl6 : g < w6.heap.size := Blk.lt hbl
        clear hb hbl
        have HB6 := Lib.hid hb6
        clear hb6
        obtain ⟨t2, ht2⟩ : ∃ t2, digB RN (tabL RN (leftF h (t.map (·.xs)) (k + 1))) v = t2 := ⟨_, rfl⟩
        have HT2 := Lib.hid ht2
        clear ht2
        have HA6 := Lib.hid (show Below w6.heap.size w6 w6 from Below.refl _ _)
        go_wp2_with fail
        refine (digs_is (some ⟨g, 0, none⟩) RN c1 V cv (tabL RN (leftF h (t.map (·.xs)) (k + 1))) v t2 HT2.out w6.heap.size _ HBN.out.reads ((HV.out.below HB6.out).more HB6.out.size) (by omega)).mono ?_
        rintro e w7 ⟨rfl, hb⟩
        have HB7 := Lib.hid (show Below w.heap.size w w7 from step_below hb (by repeat' (first | exact Below.refl _ _ | exact HB6.out | refine below_drewN ?_ _ | refine Below.drew ?_ | refine Below.alloc ?_ (by first | omega | (simp; done) | (simp; omega) | (simp [World.setCell]; omega)) _ | refine Below.setCell ?_ (by first | omega | (simp; done) | (simp; omega)) _ | assumption)))
        have HA7 := Lib.hid (step_below hb HA6.out)
        clear HA6
        have hz7 := hb.size
        try simp only [World.size_alloc, World.drewN, World.drew] at hz7
        clear hb
        have hb67 : Below w6.heap.size w6 w7 := HA7.out
        have HSB := Lib.hid (show sessBad RN h v (t.map (·.xs)) k = t2 by
          unfold sessBad; rw [HWK.out]; show (decide (wearErr RN xs ≠ 0) || _) = t2; rw [HEW.out, HT2.out]; simp)
        cases t2
        · have HBZ := Lib.hid ((HBR5.out.trans HBJ.out).trans (hb67.mono (by omega)))
          have HBM := Lib.hid (show BlkL w7 g RN (leftF h (t.map (·.xs)) (k + 1)) ext from Blk.below HBN.out hb67 hgl6)
          clear hb67
          go_wp2
          go_roundw
          case rel => exact ⟨k + 1, by omega, by go_num, HBZ.out, HBM.out, fun q hq => by
            by_cases e : q = k
            · rw [e]; exact HSB.out
            · exact HUP.out q (by omega)⟩
          case measure => simp [intOf]; omega
        · have HRR := Lib.hid (HR.out.symm.trans (sess_at (k := k) HE1.out HM.out HL.out HT0.out (by rw [HWL.out]; exact hlt) HUP.out HSB.out))
          have HV2 := Lib.hid (show (if wearErr RN ((t.map (·.xs)).getD k []) ≠ 0 then wearErr RN ((t.map (·.xs)).getD k []) else 26) = 26 by
            rw [HWK.out]; show (if wearErr RN xs ≠ 0 then wearErr RN xs else 26) = 26; rw [HEW.out, if_neg (by simp)])
          clear hb67
          go_wp2
          go_ret2
          exact ⟨by rw [HRR.out, HV2.out]; rfl, HB7.out⟩
end Go.Proofs.Ytnepjgnnppfibaa

end
