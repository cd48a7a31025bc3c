import Derived.Test.YtnepjgnnppfibaaQ19
import Derived.Test.YtnepjgnnppfibaaQ4
import Derived.Test.YtnepjgnnppfibaaQ6
import Derived.Test.YtnepjgnnppfibaaQ13

section
/- Sessions: copies of heights, what is below, the errors on the reference's side. -/
namespace Go.Proofs.Ytnepjgnnppfibaa
open Go Go.RowKit

theorem eq_nil_ints6 (A : Option Addr) (n c : Nat) (w : World) : (Op.equalIn 10000 22 (.slice A n c) (.slice none 0 0)).run Try.prog w = .ok A.isNone w := by
  show (Op.equalIn (9999 + 1) _ _ _).run _ w = _
  rw [Op.equalIn.eq_def]
  cases A <;> simp [Sem.run_bind, run_underlying Try.underlying22]
@[go_sem ↓ high] theorem eql_nil_ints6 (A : Option Addr) (n c : Nat) (w : World) : (binOp .eql 22 (.slice A n c) (.slice none 0 0)).run Try.prog w = .ok (.bool A.isNone) w := by
  simp only [binOp]
  simp [Op.equal, Op.maxDepth, eq_nil_ints6]
set_option maxRecDepth 100000 in
theorem clone6_any (A : Option Addr) (n c N : Nat) (l : List Int) (w : World) (hx : Reads w N 1 A n (l.map (.int .i64))) (hN : N ≤ w.heap.size) (hn : n ≤ 100000) :
    Calls Try.prog 100 #[.slice A n c] w (CopyPost w 3 1 n (l.map (.int .i64))) := by
  cases A with
  | none =>
    have hn0 : n = 0 := by
      rcases Nat.eq_zero_or_pos n with h | h
      · exact h
      · obtain ⟨_, _, e, _⟩ := hx.2 h
        cases e
    subst hn0
    have hl : l.map (Value.int .i64) = [] := List.length_eq_zero_iff.1 (by simpa using hx.1)
    have HL := Lib.hid hl
    clear hx hl
    go_enter Try.func100, Try.ntmps100
    go_wp2
    go_ret
    exact ⟨none, 0, rfl, Below.refl _ _, by rw [HL.out]; exact Reads.none_, by rw [HL.out]; exact World.ownsRow_nil _ _ _ _⟩
  | some a =>
    obtain ⟨v', W2, hrun, ho, hb⟩ := copy_run (P := Try.prog) 22 22 3 _ 1 8 Try.underlying22 info_int rfl (by omega) w N (some a) n c (l.map (.int .i64)) hx hN (by simp [Value.oneCell']) (by unfold maxLen; omega) (by omega)
    have HRUN := Lib.hid hrun
    have HO := Lib.hid ho
    have HB := Lib.hid hb
    clear hrun ho hb hx
    go_enter Try.func100, Try.ntmps100
    go_wp2_with (first | (at_builtin; refine wpList_app _ W2 v' rfl _ _ _ rfl _ _ rfl rfl HRUN.out ?_))
    go_ret
    exact CopyPost.of HO.out HB.out
theorem own_block6 {w : World} {base n c : Nat} {A : Option Addr} {e : TypeId} {l : List Value} (h : w.ownsRow base e 1 (.slice A n c) n l) (hn : 0 < n) :
    ∃ g ext, A = some ⟨g, 0, none⟩ ∧ base ≤ g ∧ n ≤ c ∧ Blk w g e (l ++ ext).toArray := by
  rcases h.2 with ⟨_, e⟩ | ⟨g, cap, cur, hv, hb, hh, hc, -, hs, ht⟩
  · omega
  · obtain ⟨rfl, -, rfl⟩ : A = some ⟨g, 0, none⟩ ∧ n = n ∧ c = cap := by simpa using hv
    refine ⟨g, cur.toList.drop n, rfl, hb, hc, ?_⟩
    unfold Blk
    rw [Nat.mul_one] at ht
    rw [hh, ← ht, List.take_append_drop, Array.toArray_toList]

/-- Heights are below wanted ones somewhere. -/
def digB (n : Nat) (h v : List Int) : Bool := (List.range n).any fun i => decide (h.getD i 0 < v.getD i 0)
theorem dig_yes {n k : Nat} {h v : List Int} {x y : Int} (hk : k < n) (hx : h[k]? = some x) (hy : v[k]? = some y) (hl : x < y) : digB n h v = true := by
  unfold digB
  rw [List.any_eq_true]
  exact ⟨k, List.mem_range.2 hk, by rw [getD_of hx, getD_of hy]; simpa using hl⟩
theorem dig_no {n : Nat} {h v : List Int} (hn : ∀ k, k < n → v.getD k 0 ≤ h.getD k 0) : digB n h v = false := by
  unfold digB
  rw [List.any_eq_false]
  intro k hk
  simpa using hn k (List.mem_range.1 hk)
theorem dig_false {n : Nat} {h v : List Int} (hd : digB n h v = false) : ∀ k, k < n → v.getD k 0 ≤ h.getD k 0 := by
  intro k hk
  unfold digB at hd
  have := List.any_eq_false.1 hd k (List.mem_range.2 hk)
  simpa using this

set_option maxRecDepth 100000 in
set_option maxHeartbeats 4000000 in
theorem digs_is (A : Option Addr) (n c : Nat) (B : Option Addr) (d : Nat) (h v : List Int) (t : Bool) (ht : digB n h v = t) (N : Nat) (w : World) (hx : Reads w N 1 A n (h.map (.int .i64))) (hy : Reads w N 1 B n (v.map (.int .i64))) (hn : n ≤ 1000) :
    Calls Try.prog 105 #[.slice A n c, .slice B n d] w fun e w' => e = .returned (.bool t) ∧ Below w.heap.size w w' := by
  have HT := Lib.hid ht
  have HX := Lib.hid hx
  have HY := Lib.hid hy
  clear ht hx hy
  go_enter Try.func105, Try.ntmps105
  go_wp2
  go_loopw [9] (fun v_ wr => ∃ k : Nat, k ≤ n ∧ v_ = .int .i64 k ∧ (∃ q, wr = w.drewN q) ∧ ∀ j, j < k → v.getD j 0 ≤ h.getD j 0) (fun v_ _ => n - (intOf v_).toNat)
  case atStart => exact ⟨0, by omega, rfl, ⟨0, rfl⟩, fun j hj => absurd hj (by omega)⟩
  case round =>
    obtain ⟨k, hk, rfl, ⟨q, rfl⟩, hup⟩ := hrel
    have HUP := Lib.hid hup
    clear hup
    by_cases hlt : k < n
    · obtain ⟨xb, xo, x, rfl, hxb, gx, cx⟩ := HX.out.int_ hlt
      obtain ⟨yb, yo, y, rfl, hyb, gy, cy⟩ := HY.out.int_ hlt
      have hkk : (k : Int) < (n : Int) := by omega
      by_cases hl : x < y
      · have hd : decide (x < y) = true := by simpa using hl
        have HTT := Lib.hid ((dig_yes hlt gx gy hl).symm.trans HT.out)
        clear gx gy hl
        go_wp2
        skip
        go_ret
        exact ⟨ret_bool HTT.out, below_drewN (Below.refl _ _) _⟩
      · have hd : decide (x < y) = false := by simpa using hl
        have HNO := Lib.hid (show v.getD k 0 ≤ h.getD k 0 by rw [getD_of gx, getD_of gy]; omega)
        clear gx gy hl
        go_wp2
        skip
        go_roundw
        case rel => exact ⟨k + 1, by omega, by go_num, ⟨q, rfl⟩, fun j hj => by
          by_cases e : j = k
          · rw [e]; exact HNO.out
          · exact HUP.out j (by omega)⟩
        case measure => simp [intOf]; omega
    · obtain rfl : k = n := by omega
      have HTT := Lib.hid ((dig_no HUP.out).symm.trans HT.out)
      go_wp2
      go_ret
      exact ⟨ret_bool HTT.out, below_drewN (Below.refl _ _) _⟩

set_option maxRecDepth 100000 in
set_option maxHeartbeats 4000000 in
theorem rbelow_is (A : Option Addr) (n c : Nat) (B : Option Addr) (d : Nat) (h v : List Int) (t : Bool) (ht : digB n h v = t) (N : Nat) (w : World) (hx : Reads w N 1 A n (h.map (.int .i64))) (hy : Reads w N 1 B n (v.map (.int .i64))) (hn : n ≤ 1000) :
    Calls Try.prog 107 #[.slice A n c, .slice B n d] w fun e w' => e = .returned (.bool t) ∧ Below w.heap.size w w' := by
  have HT := Lib.hid ht
  have HX := Lib.hid hx
  have HY := Lib.hid hy
  clear ht hx hy
  go_enter Try.func107, Try.ntmps107
  go_wp2
  go_loopw [5] (fun v_ wr => ∃ k : Nat, k ≤ n ∧ v_ = .int .i64 k ∧ (∃ q, wr = w.drewN q) ∧ ∀ j, j < k → v.getD j 0 ≤ h.getD j 0) (fun v_ _ => n - (intOf v_).toNat)
  case atStart => exact ⟨0, by omega, rfl, ⟨0, rfl⟩, fun j hj => absurd hj (by omega)⟩
  case round =>
    obtain ⟨k, hk, rfl, ⟨q, rfl⟩, hup⟩ := hrel
    have HUP := Lib.hid hup
    clear hup
    by_cases hlt : k < n
    · obtain ⟨xb, xo, x, rfl, hxb, gx, cx⟩ := HX.out.int_ hlt
      obtain ⟨yb, yo, y, rfl, hyb, gy, cy⟩ := HY.out.int_ hlt
      have hkk : (k : Int) < (n : Int) := by omega
      by_cases hl : x < y
      · have hd : decide (x < y) = true := by simpa using hl
        have HTT := Lib.hid ((dig_yes hlt gx gy hl).symm.trans HT.out)
        clear gx gy hl
        go_wp2
        go_quiet (fail)
        go_wp2
        go_ret
        exact ⟨ret_bool HTT.out, below_drewN (below_drewN (Below.refl _ _) _) _⟩
      · have hd : decide (x < y) = false := by simpa using hl
        have HNO := Lib.hid (show v.getD k 0 ≤ h.getD k 0 by rw [getD_of gx, getD_of gy]; omega)
        clear gx gy hl
        go_wp2
        go_quiet (fail)
        go_wp2
        go_roundw
        case rel => exact ⟨k + 1, by omega, by go_num, ⟨_, rfl⟩, fun j hj => by
          by_cases e : j = k
          · rw [e]; exact HNO.out
          · exact HUP.out j (by omega)⟩
        case measure => simp [intOf]; omega
    · obtain rfl : k = n := by omega
      have HTT := Lib.hid ((dig_no HUP.out).symm.trans HT.out)
      go_wp2
      go_ret
      exact ⟨ret_bool HTT.out, below_drewN (Below.refl _ _) _⟩

set_option maxRecDepth 100000 in
theorem rtwo_is (A : Option Addr) (n c : Nat) (B : Option Addr) (m d : Nat) (h v : List Int) (E : Int) (hE : twoErr h v = E) (w : World) (hx : Reads w w.heap.size 1 A n (h.map (.int .i64))) (hn : n ≤ 9223372036854775807) (hy : Reads w w.heap.size 1 B m (v.map (.int .i64))) (hm : m ≤ 9223372036854775807) :
    Calls Try.prog 106 #[.slice A n c, .slice B m d] w fun e w' => e = .returned (.int .i64 E) ∧ Below w.heap.size w w' := by
  have l1 : h.length = n := by have := hx.1; simpa using this
  have l2 : v.length = m := by have := hy.1; simpa using this
  obtain ⟨E1, hE1⟩ : ∃ E, heightsErr h = E := ⟨_, rfl⟩
  have HE1 := Lib.hid hE1
  have HX := Lib.hid hx
  have HY := Lib.hid hy
  unfold twoErr at hE
  rw [l1, l2, hE1] at hE
  by_cases h0 : E1 = 0
  rotate_left
  · rw [if_pos h0] at hE
    subst hE
    have e1 : (E1 != 0) = true := by simpa using h0
    clear h0 hE1 l1 l2 hx hy
    go_enter Try.func106, Try.ntmps106
    go_wp2_with fail
    refine (rheights_is A n c h E1 HE1.out _ HX.out).mono ?_
    rintro e w1 ⟨rfl, hb⟩
    have HB1 := Lib.hid (show Below w.heap.size w w1 from step_below hb (by repeat' (first | exact Below.refl _ _ | exact HB0.out | refine below_drewN ?_ _ | refine Below.drew ?_ | refine Below.alloc ?_ (by first | omega | (simp; done) | (simp; omega) | (simp [World.setCell]; omega)) _ | refine Below.setCell ?_ (by first | omega | (simp; done) | (simp; omega)) _ | assumption)))
    have hz1 := hb.size
    try simp only [World.size_alloc, World.drewN, World.drew] at hz1
    clear hb
    go_wp2
    go_ret
    exact ⟨rfl, HB1.out⟩
  subst h0
  rw [if_neg (by simp)] at hE
  by_cases h1 : m = n
  rotate_left
  · rw [if_pos h1] at hE
    subst hE
    have e1 : ((m : Int) != (n : Int)) = true := by simp; omega
    clear h1 hE1 l1 l2 hx hy
    go_enter Try.func106, Try.ntmps106
    go_wp2_with fail
    refine (rheights_is A n c h 0 HE1.out _ HX.out).mono ?_
    rintro e w1 ⟨rfl, hb⟩
    have HB1 := Lib.hid (show Below w.heap.size w w1 from step_below hb (by repeat' (first | exact Below.refl _ _ | exact HB0.out | refine below_drewN ?_ _ | refine Below.drew ?_ | refine Below.alloc ?_ (by first | omega | (simp; done) | (simp; omega) | (simp [World.setCell]; omega)) _ | refine Below.setCell ?_ (by first | omega | (simp; done) | (simp; omega)) _ | assumption)))
    have hz1 := hb.size
    try simp only [World.size_alloc, World.drewN, World.drew] at hz1
    clear hb
    go_wp2
    go_ret
    exact ⟨rfl, HB1.out⟩
  subst h1
  rw [if_neg (by simp)] at hE
  have HE := Lib.hid hE
  have e1 : ((m : Int) != (m : Int)) = false := by simp
  clear hE hE1 l1 l2 hx hy
  go_enter Try.func106, Try.ntmps106
  go_wp2_with fail
  refine (rheights_is A m c h 0 HE1.out _ HX.out).mono ?_
  rintro e w1 ⟨rfl, hb⟩
  have HB1 := Lib.hid (show Below w.heap.size w w1 from step_below hb (by repeat' (first | exact Below.refl _ _ | exact HB0.out | refine below_drewN ?_ _ | refine Below.drew ?_ | refine Below.alloc ?_ (by first | omega | (simp; done) | (simp; omega) | (simp [World.setCell]; omega)) _ | refine Below.setCell ?_ (by first | omega | (simp; done) | (simp; omega)) _ | assumption)))
  have hz1 := hb.size
  try simp only [World.size_alloc, World.drewN, World.drew] at hz1
  clear hb
  go_wp2_with fail
  refine (rheights_is B m d v E HE.out _ ((HY.out.below HB1.out).more HB1.out.size)).mono ?_
  rintro e w2 ⟨rfl, hb⟩
  have HB2 := Lib.hid (show Below w.heap.size w w2 from step_below hb (by repeat' (first | exact Below.refl _ _ | exact HB1.out | refine below_drewN ?_ _ | refine Below.drew ?_ | refine Below.alloc ?_ (by first | omega | (simp; done) | (simp; omega) | (simp [World.setCell]; omega)) _ | refine Below.setCell ?_ (by first | omega | (simp; done) | (simp; omega)) _ | assumption)))
  have hz2 := hb.size
  try simp only [World.size_alloc, World.drewN, World.drew] at hz2
  clear hb
  go_wp2
  go_ret
  exact ⟨rfl, HB2.out⟩

set_option maxRecDepth 100000 in
set_option maxHeartbeats 4000000 in
theorem rwear_is (m : Nat) (A : Option Addr) (n c : Nat) (l : List Int) (E : Int) (hE : wearErr m l = E) (w : World) (hx : Reads w w.heap.size 1 A n (l.map (.int .i64))) (hn : n ≤ 9223372036854775807) :
    Calls Try.prog 102 #[.int .i64 (m : Int), .slice A n c] w fun e w' => e = .returned (.int .i64 E) ∧ w = w' := by
  have l1 : l.length = n := by have := hx.1; simpa using this
  have HX := Lib.hid hx
  clear hx
  by_cases h1 : n = m
  rotate_left
  · have HEE := Lib.hid (show (10 : Int) = E by rw [← hE]; unfold wearErr; rw [l1, if_pos h1])
    have e1 : ((n : Int) != (m : Int)) = true := by simp; omega
    clear h1 hE l1
    go_enter Try.func102, Try.ntmps102
    go_wp2
    go_ret
    exact ⟨ret_int HEE.out, rfl⟩
  subst h1
  have HE := Lib.hid hE
  have HL := Lib.hid l1
  have e1 : ((n : Int) != (n : Int)) = false := by simp
  clear hE l1
  go_enter Try.func102, Try.ntmps102
  go_wp2
  go_loopw [5] (fun v wr => ∃ k : Nat, k ≤ n ∧ v = .int .i64 k ∧ w = wr ∧ ∀ z ∈ l.take k, withinB z 0 100000 = true) (fun v _ => n - (intOf v).toNat)
  case atStart => exact ⟨0, by omega, rfl, by first | trivial | rfl, by simp⟩
  case round =>
    obtain ⟨k, hk, rfl, rfl, hup⟩ := hrel
    have HUP := Lib.hid hup
    clear hup
    by_cases hlt : k < n
    · obtain ⟨xb, xo, x, rfl, hxb, gx, cx⟩ := HX.out.int_ hlt
      have hkk : (k : Int) < (n : Int) := by omega
      obtain ⟨t, ht⟩ : ∃ t, withinB x 0 100000 = t := ⟨_, rfl⟩
      have HT := Lib.hid ht
      have HGX := Lib.hid gx
      clear ht gx
      go_wp2_with fail
      refine (withinref_is _ _ _ t HT.out _).mono ?_
      rintro e w' ⟨rfl, rfl⟩
      cases t
      · have HEE := Lib.hid (show (2 : Int) = E by
          rw [← HE.out]; unfold wearErr
          rw [HL.out, if_neg (by simp), if_pos]
          rw [List.any_eq_true]
          exact ⟨x, List.mem_of_getElem? HGX.out, by rw [HT.out]; rfl⟩)
        go_wp2
        go_ret
        exact ⟨ret_int HEE.out, rfl⟩
      · go_wp2
        go_roundw
        case rel => exact ⟨k + 1, by omega, by go_num, by first | trivial | rfl, take_all HGX.out HUP.out HT.out⟩
        case measure => simp [intOf]; omega
    · obtain rfl : k = n := by omega
      have HEE := Lib.hid (show (0 : Int) = E by
        rw [← HE.out]; unfold wearErr
        rw [HL.out, if_neg (by simp), if_neg]
        rw [Bool.not_eq_true, List.any_eq_false]
        intro z hz
        rw [HUP.out z (by rw [List.take_of_length_le (by rw [HL.out]; omega)]; exact hz)]
        simp)
      go_wp2
      go_ret
      exact ⟨ret_int HEE.out, rfl⟩
end Go.Proofs.Ytnepjgnnppfibaa

end

section
/- Sessions: plain models; what remains, and whether sessions dig. -/
namespace Go.Proofs.Ytnepjgnnppfibaa
open Go Go.RowKit

/-- A list by its values. -/
def tabL (n : Nat) (f : Nat → Int) : List Int := (List.range n).map f
theorem tabL_len (n : Nat) (f : Nat → Int) : (tabL n f).length = n := by unfold tabL; simp
theorem tabL_get {n i : Nat} (f : Nat → Int) (h : i < n) : (tabL n f)[i]? = some (f i) := by unfold tabL; rw [List.getElem?_map, List.getElem?_range h]; rfl
theorem tabL_congr {n : Nat} {f g : Nat → Int} (h : ∀ i, i < n → f i = g i) : tabL n f = tabL n g := by
  unfold tabL
  exact List.map_congr_left fun i hi => h i (List.mem_range.1 hi)
theorem tabL_of {n : Nat} {l : List Int} (h : l.length = n) : l = tabL n fun i => l.getD i 0 := by
  apply List.ext_getElem?
  intro i
  by_cases hi : i < n
  · rw [tabL_get _ hi, List.getElem?_eq_getElem (by omega), getD_of (List.getElem?_eq_getElem (by omega))]
  · rw [List.getElem?_eq_none (by omega), List.getElem?_eq_none (by rw [tabL_len]; omega)]
theorem tabL_set {n j : Nat} (f : Nat → Int) (z : Int) : (tabL n f).set j z = tabL n fun i => if i = j then z else f i := by
  apply List.ext_getElem?
  intro i
  by_cases hi : i < n
  · rw [tabL_get _ hi, List.getElem?_set]
    by_cases e : j = i
    · subst e; rw [if_pos rfl, if_pos (by rw [tabL_len]; exact hi), if_pos rfl]
    · rw [if_neg e, if_neg (fun h => e h.symm), tabL_get _ hi]
  · rw [List.getElem?_eq_none (by rw [List.length_set, tabL_len]; omega), List.getElem?_eq_none (by rw [tabL_len]; omega)]
section
variable {w : World} {g n : Nat} {f : Nat → Int} {ext : List Value}
/-- A block that holds a list. -/
def BlkL (w : World) (g n : Nat) (f : Nat → Int) (ext : List Value) : Prop := Blk w g 3 ((tabL n f).map (Value.int .i64) ++ ext).toArray
theorem BlkL.cell (h : BlkL w g n f ext) {j : Nat} (hj : j < n) : w.cell? ⟨g, j, none⟩ = some (.int .i64 (f j)) := by
  rw [Blk.cell h j]
  have : ((tabL n f).map (Value.int .i64))[j]? = some (.int .i64 (f j)) := by rw [List.getElem?_map, tabL_get f hj]; rfl
  simp [List.getElem?_append_left (List.getElem?_eq_some_iff.1 this).1, this]
theorem BlkL.set (h : BlkL w g n f ext) {j : Nat} (hj : j < n) (z : Int) : BlkL (w.setCell ⟨g, j, none⟩ (.int .i64 z)) g n (fun i => if i = j then z else f i) ext := by
  have h1 := Blk.set_ h j (.int .i64 z)
  unfold BlkL
  rw [List.setIfInBounds_toArray, List.set_append_left _ _ (by rw [List.length_map, tabL_len]; exact hj), ← List.map_set, tabL_set] at h1
  exact h1
theorem BlkL.congr {f' : Nat → Int} (h : BlkL w g n f ext) (e : ∀ i, i < n → f i = f' i) : BlkL w g n f' ext := by unfold BlkL at h ⊢; rw [← tabL_congr e]; exact h
theorem BlkL.reads (h : BlkL w g n f ext) : Reads w w.heap.size 1 (some ⟨g, 0, none⟩) n ((tabL n f).map (.int .i64)) :=
  ⟨by rw [List.length_map, tabL_len, Nat.mul_one], fun _ => ⟨g, 0, rfl, Blk.lt h, fun j u hu => by
    rw [Nat.zero_add, Blk.cell h j]
    have := (List.getElem?_eq_some_iff.1 hu).1
    simp [List.getElem?_append_left this, hu]⟩⟩
end

theorem getD_in {l : List Int} {i : Nat} {lo hi : Int} (h0 : lo ≤ 0 ∧ 0 ≤ hi) (h : ∀ z ∈ l, lo ≤ z ∧ z ≤ hi) : lo ≤ l.getD i 0 ∧ l.getD i 0 ≤ hi := by
  rw [List.getD_eq_getElem?_getD]
  cases hg : l[i]? with
  | none => exact h0
  | some z => exact h z (List.mem_of_getElem? hg)
/-- What is left of a zone behind so many sessions. -/
def leftF (h : List Int) (ws : List (List Int)) (k i : Nat) : Int := h.getD i 0 - sumN (fun q => (ws.getD q []).getD i 0) k
theorem leftF_zero (h : List Int) (ws : List (List Int)) (i : Nat) : leftF h ws 0 i = h.getD i 0 := by unfold leftF sumN; omega
theorem leftF_succ (h : List Int) (ws : List (List Int)) (k i : Nat) : leftF h ws (k + 1) i = leftF h ws k i - (ws.getD k []).getD i 0 := by
  unfold leftF
  show _ - (sumN _ k + (ws.getD k []).getD i 0) = _
  omega
theorem leftF_in {h : List Int} {ws : List (List Int)} {n k i : Nat} (hh : ∀ z ∈ h, -100000 ≤ z ∧ z ≤ 100000) (hw : ∀ q, q < k → wearErr n (ws.getD q []) = 0) (hk : k ≤ 100) : -20000000 ≤ leftF h ws k i ∧ leftF h ws k i ≤ 100000 := by
  have h1 := sumN_in k (f := fun q => (ws.getD q []).getD i 0) (lo := 0) (hi := 100000) (fun q hq => by
    have h2 := (wear_ok (hw q hq)).2
    exact getD_in (by omega) h2) k (Nat.le_refl _)
  have h3 : -100000 ≤ h.getD i 0 ∧ h.getD i 0 ≤ 100000 := getD_in (by omega) hh
  unfold leftF
  omega
/-- The errors of sessions. -/
def leftErr (h : List Int) (ws : List (List Int)) : Int := if heightsErr h ≠ 0 then heightsErr h else if 100 < ws.length then 8 else firstErr (wearErr h.length) ws
/-- What remains, or an error. -/
def RemPost (h : List Int) (ws : List (List Int)) (n : Nat) (E : Int) (w : World) (e : Ending) (w' : World) : Prop :=
  Below w.heap.size w w' ∧ ((E ≠ 0 ∧ e = .returned (.tuple #[.slice none 0 0, .int .i64 E])) ∨ (E = 0 ∧ ∃ A c, e = .returned (.tuple #[.slice A n c, .int .i64 0]) ∧ Reads w' w'.heap.size 1 A n ((tabL n (leftF h ws ws.length)).map (.int .i64))))
theorem RemPost.bad {h : List Int} {ws : List (List Int)} {n : Nat} {E : Int} {w w' : World} {e : Ending} (h0 : E ≠ 0) (he : e = .returned (.tuple #[.slice none 0 0, .int .i64 E])) (hb : Below w.heap.size w w') : RemPost h ws n E w e w' := ⟨hb, .inl ⟨h0, he⟩⟩
theorem RemPost.ok {h : List Int} {ws : List (List Int)} {n : Nat} {E : Int} {w w' : World} {e : Ending} {A : Option Addr} {c : Nat} (h0 : 0 = E) (he : e = .returned (.tuple #[.slice A n c, .int .i64 0])) (hb : Below w.heap.size w w') (hr : Reads w' w'.heap.size 1 A n ((tabL n (leftF h ws ws.length)).map (.int .i64))) : RemPost h ws n E w e w' := ⟨hb, .inr ⟨h0.symm, A, c, he, hr⟩⟩

set_option maxRecDepth 100000 in
set_option maxHeartbeats 4000000 in
theorem remaining_is (A : Option Addr) (n c : Nat) (B : Option Addr) (m d : Nat) (h : List Int) (t : List TRow) (E : Int) (hE : leftErr h (t.map (·.xs)) = E) (w : World) (hx : Reads w w.heap.size 1 A n (h.map (.int .i64))) (hy : ReadsT w w.heap.size B m t) (hn : n ≤ 1000) (hm : m ≤ 1000) :
    Calls Try.prog 62 #[.slice A n c, .slice B m d] w (RemPost h (t.map (·.xs)) n E w) := by
  have hl : h.length = n := by have := hx.1; simpa using this
  have htl : t.length = m := hy.len
  have HX := Lib.hid hx
  have HY := Lib.hid hy
  have HL := Lib.hid hl
  have HTL := Lib.hid htl
  have HE := Lib.hid hE
  obtain ⟨E1, hE1⟩ : ∃ E, heightsErr h = E := ⟨_, rfl⟩
  have HE1 := Lib.hid hE1
  by_cases h0 : E1 = 0
  rotate_left
  · have HEE := Lib.hid (show E1 = E by rw [← hE]; unfold leftErr; rw [hE1, if_pos h0])
    have H0 := Lib.hid (show E ≠ 0 by rw [← HEE.out]; exact h0)
    have e1 : (E1 != 0) = true := by simpa using h0
    clear h0 hE1 hl htl hx hy hE
    go_enter Try.func62, Try.ntmps62
    go_wp2_with fail
    refine (heights_is A n c h E1 HE1.out _ HX.out (by omega)).mono ?_
    rintro e w1 ⟨rfl, hb⟩
    have HB1 := Lib.hid (show Below w.heap.size w w1 from step_below hb (by repeat' (first | exact Below.refl _ _ | exact HB0.out | refine below_drewN ?_ _ | refine Below.drew ?_ | refine Below.alloc ?_ (by first | omega | (simp; done) | (simp; omega) | (simp [World.setCell]; omega)) _ | refine Below.setCell ?_ (by first | omega | (simp; done) | (simp; omega)) _ | assumption)))
    have hz1 := hb.size
    try simp only [World.size_alloc, World.drewN, World.drew] at hz1
    clear hb
    go_wp2
    go_ret2
    exact RemPost.bad H0.out (by rw [← HEE.out]; rfl) HB1.out
  subst h0
  by_cases h100 : 100 < m
  · have HEE := Lib.hid (show (8 : Int) = E by rw [← hE]; unfold leftErr; rw [hE1, if_neg (by simp), List.length_map, htl, if_pos h100])
    have H0 := Lib.hid (show E ≠ 0 by rw [← HEE.out]; decide)
    have e1 : decide ((100 : Int) < (m : Int)) = true := by simp; omega
    clear h100 hE1 hl htl hx hy hE
    go_enter Try.func62, Try.ntmps62
    go_wp2_with fail
    refine (heights_is A n c h 0 HE1.out _ HX.out (by omega)).mono ?_
    rintro e w1 ⟨rfl, hb⟩
    have HB1 := Lib.hid (show Below w.heap.size w w1 from step_below hb (by repeat' (first | exact Below.refl _ _ | exact HB0.out | refine below_drewN ?_ _ | refine Below.drew ?_ | refine Below.alloc ?_ (by first | omega | (simp; done) | (simp; omega) | (simp [World.setCell]; omega)) _ | refine Below.setCell ?_ (by first | omega | (simp; done) | (simp; omega)) _ | assumption)))
    have hz1 := hb.size
    try simp only [World.size_alloc, World.drewN, World.drew] at hz1
    clear hb
    go_wp2
    go_ret2
    exact RemPost.bad H0.out (by rw [← HEE.out]; rfl) HB1.out
  have e1 : decide ((100 : Int) < (m : Int)) = false := by simp; omega
  obtain ⟨n1, n2, hh⟩ := heights_ok hE1
  rw [hl] at n1 n2
  have HHH := Lib.hid hh
  have HE2 := Lib.hid (show firstErr (wearErr n) (t.map (·.xs)) = E by rw [← hE]; unfold leftErr; rw [hE1, if_neg (by simp), List.length_map, htl, if_neg h100, hl])
  clear hE1 hl htl hx hy hE hh
  go_enter Try.func62, Try.ntmps62
  go_wp2_with fail
  refine (heights_is A n c h 0 HE1.out _ HX.out (by omega)).mono ?_
  rintro e w1 ⟨rfl, hb⟩
  have HB1 := Lib.hid (show Below w.heap.size w w1 from step_below hb (by repeat' (first | exact Below.refl _ _ | exact HB0.out | refine below_drewN ?_ _ | refine Below.drew ?_ | refine Below.alloc ?_ (by first | omega | (simp; done) | (simp; omega) | (simp [World.setCell]; omega)) _ | refine Below.setCell ?_ (by first | omega | (simp; done) | (simp; omega)) _ | assumption)))
  have hz1 := hb.size
  try simp only [World.size_alloc, World.drewN, World.drew] at hz1
  clear hb
  go_wp2_with fail
  refine (clone6_any A n c w1.heap.size h _ ((HX.out.below HB1.out).more HB1.out.size) (Nat.le_refl _) (by omega)).mono ?_
  rintro e w2 ⟨A1, c1, rfl, hb, hr, ho⟩
  have HB2 := Lib.hid (show Below w.heap.size w w2 from step_below hb (by repeat' (first | exact Below.refl _ _ | exact HB1.out | refine below_drewN ?_ _ | refine Below.drew ?_ | refine Below.alloc ?_ (by first | omega | (simp; done) | (simp; omega) | (simp [World.setCell]; omega)) _ | refine Below.setCell ?_ (by first | omega | (simp; done) | (simp; omega)) _ | assumption)))
  have hz2 := hb.size
  try simp only [World.size_alloc, World.drewN, World.drew] at hz2
  clear hb
  clear hr
  obtain ⟨g, ext, rfl, hg, hnc, hblk⟩ := own_block6 ho (by omega)
  have hwg : w.heap.size ≤ g := Nat.le_trans HB1.out.size hg
  have hgl : g < w2.heap.size := hblk.lt
  have HBL := Lib.hid (show BlkL w2 g n (leftF h (t.map (·.xs)) 0) ext from by
    unfold BlkL
    rw [show tabL n (leftF h (t.map (·.xs)) 0) = h from by
      rw [tabL_congr (g := fun i => h.getD i 0) (fun i _ => leftF_zero _ _ _)]; exact (tabL_of HL.out).symm]
    exact hblk)
  clear ho hblk
  go_wp2_with fail
  go_loopw [25] (fun v wr => ∃ k : Nat, k ≤ m ∧ v = .int .i64 k ∧ Below g w2 wr ∧ BlkL wr g n (leftF h (t.map (·.xs)) k) ext ∧ ∀ q, q < k → wearErr n ((t.map (·.xs)).getD q []) = 0) (fun v _ => m - (intOf v).toNat)
  case atStart => exact ⟨0, by omega, rfl, Below.refl _ _, HBL.out, fun q hq => absurd hq (by omega)⟩
  case round =>
    obtain ⟨k, hk, rfl, hb, hbl, hup⟩ := hrel
    obtain ⟨w3, hnm⟩ : ∃ z : World, z = wr := ⟨_, rfl⟩
    subst hnm
    have HBR := Lib.hid hb
    have HBLK := Lib.hid hbl
    have HUP := Lib.hid hup
    have hb3 := HB2.out.trans (hb.mono hwg)
    clear hb hbl hup
    have HB3 := Lib.hid hb3
    clear hb3
    by_cases hlt : k < m
    rotate_left
    · obtain rfl : m = k := by omega
      have HEE := Lib.hid (show (0 : Int) = E by
        rw [← HE2.out]
        refine (firstErr_ok fun l hl => ?_).symm
        obtain ⟨q, hq⟩ := List.getElem?_of_mem hl
        have hq2 := (List.getElem?_eq_some_iff.1 hq).1
        rw [List.length_map, HTL.out] at hq2
        have := HUP.out q hq2
        rwa [getD_of hq] at this)
      have hr := HBLK.out.reads
      have HR := Lib.hid (show Reads w3 w3.heap.size 1 (some ⟨g, 0, none⟩) n ((tabL n (leftF h (t.map (·.xs)) (t.map (·.xs)).length)).map (.int .i64)) by rw [List.length_map, HTL.out]; exact hr)
      clear hr
      go_wp2
      go_ret2
      exact RemPost.ok HEE.out rfl HB3.out HR.out
    have hkk : (k : Int) < (m : Int) := by omega
    obtain ⟨bt, ot, r, rfl, hbt, hrt, cr, ⟨hrc1, hrc2⟩, hrl, hrr⟩ := (HY.out.below HB3.out).at_ hlt
    have hwk : (t.map (·.xs)).getD k [] = r.xs := getD_of (by rw [List.getElem?_map, hrt]; rfl)
    have HWK := Lib.hid hwk
    have HRT := Lib.hid hrt
    have HRR := Lib.hid hrr
    obtain ⟨E2, hE2⟩ : ∃ E, wearErr n r.xs = E := ⟨_, rfl⟩
    have HEW := Lib.hid hE2
    obtain ⟨RA, RN, RC, xs⟩ := r
    simp only at cr hrc1 hrc2 hrl hE2
    clear hwk hrt hrr hE2
    have HA3 := Lib.hid (show Below w3.heap.size w3 w3 from Below.refl _ _)
    go_wp2_with fail
    refine (wear_is RA RN RC xs n E2 HEW.out _ (HRR.out.more HB3.out.size) (by omega)).mono ?_
    rintro e w4 ⟨rfl, hb⟩
    have HB4 := Lib.hid (show Below w.heap.size w w4 from step_below hb (by repeat' (first | exact Below.refl _ _ | exact HB3.out | refine below_drewN ?_ _ | refine Below.drew ?_ | refine Below.alloc ?_ (by first | omega | (simp; done) | (simp; omega) | (simp [World.setCell]; omega)) _ | refine Below.setCell ?_ (by first | omega | (simp; done) | (simp; omega)) _ | assumption)))
    have HA4 := Lib.hid (step_below hb HA3.out)
    clear HA3
    have hz4 := hb.size
    try simp only [World.size_alloc, World.drewN, World.drew] at hz4
    clear hb
    have hb34 : Below w3.heap.size w3 w4 := HA4.out
    by_cases h0 : E2 = 0
    rotate_left
    · have HEE := Lib.hid (show E2 = E by
        rw [← HE2.out, firstErr_at (k := k) (p := xs) (by rw [List.getElem?_map, HRT.out]; rfl) (fun l hl => ?_) (by rw [HEW.out]; exact h0)]
        · exact HEW.out.symm
        · obtain ⟨q, hq⟩ := List.getElem?_of_mem hl
          have hq2 := (List.getElem?_eq_some_iff.1 hq).1
          rw [List.length_take] at hq2
          rw [List.getElem?_take_of_lt (by omega)] at hq
          have := HUP.out q (by omega)
          rwa [getD_of hq] at this)
      have H0 := Lib.hid (show E ≠ 0 by rw [← HEE.out]; exact h0)
      have e2 : (E2 != 0) = true := by simpa using h0
      clear h0
      go_wp2
      go_ret2
      exact RemPost.bad H0.out (by rw [← HEE.out]; rfl) HB4.out
    subst h0
    obtain ⟨hxl, hxs⟩ := wear_ok HEW.out
    obtain rfl : RN = n := hrl.symm.trans hxl
    have HXS := Lib.hid hxs
    have hgl3 : g < w3.heap.size := Blk.lt HBLK.out
    have HBL4 := Lib.hid (show BlkL w4 g RN (leftF h (t.map (·.xs)) k) ext from Blk.below HBLK.out hb34 hgl3)
    have HBR4 := Lib.hid (HBR.out.trans (hb34.mono (by omega)))
    have hxr := (HRR.out.below (Below.mono hb34 (show w.heap.size ≤ w3.heap.size by omega)))
    have HXR := Lib.hid hxr
    clear hb34 hxs hxr hxl hrl
    go_wp2_with fail
    go_loopw [38] (fun v wr => ∃ j : Nat, j ≤ RN ∧ v = .int .i64 j ∧ Below g w4 wr ∧ BlkL wr g RN (fun i => if i < j then leftF h (t.map (·.xs)) (k + 1) i else leftF h (t.map (·.xs)) k i) ext) (fun v _ => RN - (intOf v).toNat)
    case atStart => exact ⟨0, by omega, rfl, Below.refl _ _, HBL4.out.congr fun i hi => by rw [if_neg (by omega)]⟩
    case round =>
      obtain ⟨j, hj, rfl, hb, hbl⟩ := hrel
      obtain ⟨w5, hnm⟩ : ∃ z : World, z = wr := ⟨_, rfl⟩
      subst hnm
      have HBJ := Lib.hid hb
      have HBLJ := Lib.hid hbl
      by_cases hjt : j < RN
      · have hjj : (j : Int) < (RN : Int) := by omega
        obtain ⟨xb, xo, x, rfl, hxb, gx, cx⟩ := (HXR.out.below (hb.mono hwg)).int_ hjt
        have hc := hbl.cell hjt
        have hf := Blk.frozen hbl j
        simp only [Nat.lt_irrefl, if_false] at hc
        obtain ⟨y, hy⟩ : ∃ y, leftF h (t.map (·.xs)) k j = y := ⟨_, rfl⟩
        rw [hy] at hc
        have hyin := leftF_in (i := j) HHH.out HUP.out (by omega)
        rw [hy] at hyin
        have hxin := HXS.out x (List.mem_of_getElem? gx)
        have e3 := IntWalk.i64_in (y - x) ⟨by omega, by omega⟩
        have hgl5 : g < w5.heap.size := Blk.lt hbl
        have HSET := Lib.hid ((hbl.set hjt (y - x)).congr (f' := fun i => if i < j + 1 then leftF h (t.map (·.xs)) (k + 1) i else leftF h (t.map (·.xs)) k i) fun i hi => by
          by_cases e : i = j
          · subst e
            rw [if_pos rfl, if_pos (by omega), leftF_succ, hy, HWK.out]
            show y - x = y - xs.getD i 0
            rw [getD_of gx]
          · rw [if_neg e]
            by_cases e2 : i < j
            · rw [if_pos e2, if_pos (by omega)]
            · rw [if_neg e2, if_neg (by omega)])
        clear hb hbl gx hy hyin hxin
        go_wp2
        go_roundw
        case rel => exact ⟨j + 1, by omega, by go_num, HBJ.out.setCell (p := ⟨g, j, none⟩) (Nat.le_refl _) _, HSET.out⟩
        case measure => simp [intOf]; omega
      · obtain rfl : RN = j := by omega
        clear hb hbl
        go_wp2
        go_roundw
        case rel => exact ⟨k + 1, by omega, by go_num, HBR4.out.trans HBJ.out, HBLJ.out.congr fun i hi => by rw [if_pos hi], fun q hq => by
          by_cases e : q = k
          · rw [e, HWK.out]; exact HEW.out
          · exact HUP.out q (by omega)⟩
        case measure => simp [intOf]; omega
end Go.Proofs.Ytnepjgnnppfibaa

end
