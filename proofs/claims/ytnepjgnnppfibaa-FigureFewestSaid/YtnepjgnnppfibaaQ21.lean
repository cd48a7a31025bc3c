import Derived.Test.YtnepjgnnppfibaaQ20

section
/- Sessions: the reference's side. -/
namespace Go.Proofs.Ytnepjgnnppfibaa
open Go Go.RowKit

set_option maxRecDepth 100000 in
set_option maxHeartbeats 4000000 in
theorem rless_is (A : Option Addr) (n c : Nat) (B : Option Addr) (d : Nat) (f : Nat → Int) (l : List Int) (tm : Int) (ht : 0 ≤ tm ∧ tm ≤ 100) (hn1 : 1 ≤ n) (hn : n ≤ 1000) (hf : ∀ i, i < n → -100000000 ≤ f i ∧ f i ≤ 100000000) (hl : ∀ z ∈ l, 0 ≤ z ∧ z ≤ 100000) (w : World) (hx : Reads w w.heap.size 1 A n ((tabL n f).map (.int .i64))) (hy : Reads w w.heap.size 1 B n (l.map (.int .i64))) :
    Calls Try.prog 103 #[.slice A n c, .slice B n d, .int .i64 tm] w fun e w' => ∃ A' c', e = .returned (.slice A' n c') ∧ Below w.heap.size w w' ∧ Reads w' w'.heap.size 1 A' n ((tabL n fun i => f i - tm * l.getD i 0).map (.int .i64)) := by
  have HX := Lib.hid hx
  have HY := Lib.hid hy
  have HF := Lib.hid hf
  have HL := Lib.hid hl
  clear hx hy hf hl
  go_enter Try.func103, Try.ntmps103
  go_wp2_with fail
  refine (copyints_any A n c w.heap.size (tabL n f) _ HX.out (Nat.le_refl _) (by omega)).mono ?_
  rintro e w1 ⟨A1, c1, rfl, hb, hr, ho⟩
  have HB1 := Lib.hid (show Below w.heap.size w w1 from step_below hb (by repeat' (first | exact Below.refl _ _ | exact HB0.out | refine below_drewN ?_ _ | refine Below.drew ?_ | refine Below.alloc ?_ (by first | omega | (simp; done) | (simp; omega) | (simp [World.setCell]; omega)) _ | refine Below.setCell ?_ (by first | omega | (simp; done) | (simp; omega)) _ | assumption)))
  have hz1 := hb.size
  try simp only [World.size_alloc, World.drewN, World.drew] at hz1
  clear hb
  clear hr
  obtain ⟨g, ext, rfl, hg, hnc, hblk⟩ := own_block6 ho (by omega)
  have hgl : g < w1.heap.size := hblk.lt
  have HBL := Lib.hid (show BlkL w1 g n f ext from hblk)
  clear ho hblk
  go_wp2_with fail
  go_loopw [8] (fun v wr => ∃ j : Nat, j ≤ n ∧ v = .int .i64 j ∧ Below g w1 wr ∧ BlkL wr g n (fun i => if i < j then f i - tm * l.getD i 0 else f i) ext) (fun v _ => n - (intOf v).toNat)
  case atStart => exact ⟨0, by omega, rfl, Below.refl _ _, HBL.out.congr fun i hi => by rw [if_neg (by omega)]⟩
  case round =>
    obtain ⟨j, hj, rfl, hb, hbl⟩ := hrel
    obtain ⟨w2, hnm⟩ : ∃ z : World, z = wr := ⟨_, rfl⟩
    subst hnm
    have HBJ := Lib.hid hb
    have HBLJ := Lib.hid hbl
    by_cases hjt : j < n
    · have hjj : (j : Int) < (n : Int) := by omega
      obtain ⟨xb, xo, x, rfl, hxb, gx, cx⟩ := ((HY.out.below HB1.out).below (hb.mono hg)).int_ hjt
      have hc := hbl.cell hjt
      have hfz := Blk.frozen hbl j
      simp only [Nat.lt_irrefl, if_false] at hc
      have hyin := HF.out j hjt
      obtain ⟨y, hy⟩ : ∃ y, f j = y := ⟨_, rfl⟩
      rw [hy] at hc hyin
      have hxin := HL.out x (List.mem_of_getElem? gx)
      have p1 := Int.mul_nonneg ht.1 hxin.1
      have p2 := Int.mul_le_mul ht.2 hxin.2 hxin.1 (by omega)
      have e2 := IntWalk.i64_in (tm * x) ⟨by omega, by omega⟩
      have e3 := IntWalk.i64_in (y - tm * x) ⟨by omega, by omega⟩
      have hgl5 : g < w2.heap.size := Blk.lt hbl
      have HSET := Lib.hid fun (q : Nat) => ((show BlkL (w2.drewN q) g n _ ext from Blk.drewN hbl q).set hjt (y - tm * x)).congr (f' := fun i => if i < j + 1 then f i - tm * l.getD i 0 else f i) fun i hi => by
        by_cases e : i = j
        · subst e
          rw [if_pos rfl, if_pos (by omega), hy, getD_of gx]
        · rw [if_neg e]
          by_cases e2 : i < j
          · rw [if_pos e2, if_pos (by omega)]
          · rw [if_neg e2, if_neg (by omega)]
      clear hb hbl gx hy hyin hxin p1 p2
      go_wp2
      obtain ⟨W0, hW0⟩ : ∃ W0, W0 = w2.drewN 1 := ⟨_, rfl⟩
      have m0 : W0.cell? ⟨xb, xo + j, none⟩ = some (.int .i64 x) := by rw [hW0]; exact cx
      have mo : W0.cell? ⟨g, j, none⟩ = some (.int .i64 y) := by rw [hW0]; exact hc
      have mf : W0.frozen? ⟨g, j, none⟩ = false := by rw [hW0]; exact hfz
      refine Fx.region (fun f w' => (f 14 = false → w' = W0) ∧ (f 14 = true → w' = W0.setCell ⟨g, j, none⟩ (.int .i64 (y - tm * x)))) (by kernel_rfl) (by kernel_rfl) ?_ ?_
      · intro f hf0
        exact ⟨fun _ => hW0.symm, fun h => by rw [hf0 14] at h; cases h⟩
      have HW0 := Lib.hid hW0
      clear hW0
      repeat (first
        | (refine Fx.skip_ (by rfl) (fun f w h => h) ?_; simp only [Act.put, List.setIfInBounds_toArray, List.set_cons_zero, List.set_cons_succ])
        | (refine Fx.val_ ?_ (by rfl) ?_ (fun f w h => h) ?_
           rotate_left
           · intro f w' hD hk
             obtain ⟨jw, jr⟩ := id hD
             have jw := jw (hk.2.1 14 (by kernel_rfl))
             have q0 : w'.cell? ⟨xb, xo + j, none⟩ = some (.int .i64 x) := by rw [jw]; exact m0
             have qo : w'.cell? ⟨g, j, none⟩ = some (.int .i64 y) := by rw [jw]; exact mo
             clear hk hD jw jr
             go_simp
             try rfl
           simp only [Act.put, List.setIfInBounds_toArray, List.set_cons_zero, List.set_cons_succ]))
      refine Fx.store_ (fun w' => w'.setCell ⟨g, j, none⟩ (.int .i64 (y - tm * x))) (by rfl) ?_ ?_ ?_
      · intro f w' hD hk
        obtain ⟨jw, jr⟩ := id hD
        have jw := jw hk.1
        have q0 : w'.cell? ⟨g, j, none⟩ = some (.int .i64 y) := by rw [jw]; exact mo
        have q1 : w'.frozen? ⟨g, j, none⟩ = false := by rw [jw]; exact mf
        clear hk hD jw jr
        go_simp
      · intro f w' hD hk
        obtain ⟨jw, jr⟩ := id hD
        have jw := jw hk.1
        exact ⟨fun h => by simp [Fx.add] at h, fun _ => by rw [jw]⟩
      simp only [Act.put, List.setIfInBounds_toArray, List.set_cons_zero, List.set_cons_succ]
      refine Fx.nil_ ?_
      intro f w3 hall hD
      have hwn := hD.2 (hall 14 (by simp))
      rw [HW0.out] at hwn
      clear hall hD HW0 mo mf m0
      have HW := Lib.hid hwn
      clear hwn
      go_wp2
      go_roundw
      case rel => exact ⟨j + 1, by omega, by go_num, by rw [HW.out]; exact (below_drewN HBJ.out 1).setCell (p := ⟨g, j, none⟩) (Nat.le_refl _) _, by rw [HW.out]; exact HSET.out 1⟩
      case measure => simp [intOf]; omega
    · obtain rfl : n = j := by omega
      have HR := Lib.hid (hbl.congr (f' := fun i => f i - tm * l.getD i 0) fun i hi => by rw [if_pos hi]).reads
      have HBB := Lib.hid (HB1.out.trans (hb.mono hg))
      clear hb hbl
      go_wp2
      go_ret
      exact ⟨_, _, rfl, HBB.out, HR.out⟩

end Go.Proofs.Ytnepjgnnppfibaa

end

section
/- Plain law of the fewest sessions: lists of numbers as the digits of a count. -/
namespace Go.Proofs.Ytnepjgnnppfibaa
open Go.RowKit

/-- The digit of B's e-th power. -/
def dg (B e j : Nat) : Nat := j / B ^ e % B
theorem dg_lt {B e j : Nat} (hB : 0 < B) : dg B e j < B := Nat.mod_lt _ hB
theorem dg_carry {B e j : Nat} (hB : 0 < B) (h : j % B ^ e = B ^ e - 1) (hd : dg B e j = B - 1) : j % B ^ (e + 1) = B ^ (e + 1) - 1 := by
  have hp : 0 < B ^ e := Nat.pow_pos hB
  unfold dg at hd
  rw [Nat.pow_succ, Nat.mod_mul, h, hd, Nat.mul_sub_one, Nat.mul_comm]
  have : B ^ e ≤ B ^ e * B := Nat.le_mul_of_pos_right _ hB
  rw [Nat.mul_comm B]
  omega
theorem dg_stop {B e j : Nat} (h : j % B ^ e = B ^ e - 1) (hd : dg B e j + 1 < B) (f : Nat) : dg B f (j + 1) = if f < e then 0 else if f = e then dg B e j + 1 else dg B f j := by
  have hB : 0 < B := by omega
  have hp : 0 < B ^ e := Nat.pow_pos hB
  obtain ⟨a, ha⟩ : ∃ a, j / B ^ e = a := ⟨_, rfl⟩
  have hj : j + 1 = (a + 1) * B ^ e := by
    have := Nat.div_add_mod j (B ^ e)
    rw [ha, h] at this
    rw [Nat.add_mul, Nat.one_mul, Nat.mul_comm a]
    omega
  have hda : a % B + 1 < B := by unfold dg at hd; rw [ha] at hd; exact hd
  have hab : (a + 1) / B = a / B ∧ (a + 1) % B = a % B + 1 := by
    have h1 := Nat.div_add_mod a B
    have h2 : a + 1 = B * (a / B) + (a % B + 1) := by omega
    constructor
    · rw [h2, Nat.mul_add_div hB, Nat.div_eq_of_lt hda, Nat.add_zero]
    · rw [h2, Nat.mul_add_mod, Nat.mod_eq_of_lt hda]
  by_cases h1 : f < e
  · rw [if_pos h1]
    unfold dg
    obtain ⟨d, rfl⟩ : ∃ d, e = f + (d + 1) := ⟨e - f - 1, by omega⟩
    rw [hj, Nat.pow_add, ← Nat.mul_assoc, Nat.mul_comm ((a + 1) * B ^ f), Nat.mul_comm (a + 1), ← Nat.mul_assoc, Nat.mul_comm (B ^ (d + 1)), Nat.mul_assoc, Nat.mul_div_cancel_left _ (Nat.pow_pos hB), Nat.pow_succ, Nat.mul_assoc, Nat.mul_comm B, ← Nat.mul_assoc, Nat.mul_mod_left]
  · rw [if_neg h1]
    by_cases h2 : f = e
    · subst h2
      rw [if_pos rfl]
      unfold dg
      rw [hj, Nat.mul_div_cancel _ hp, ha]
      exact hab.2
    · rw [if_neg h2]
      unfold dg
      obtain ⟨d, rfl⟩ : ∃ d, f = e + (d + 1) := ⟨f - e - 1, by omega⟩
      have e1 : ∀ x, x / B ^ (e + (d + 1)) = x / B ^ e / B / B ^ d := by
        intro x
        rw [Nat.pow_add, Nat.pow_succ, Nat.mul_comm (B ^ d), ← Nat.mul_assoc, ← Nat.div_div_eq_div_mul, ← Nat.div_div_eq_div_mul]
      rw [e1, e1, hj, Nat.mul_div_cancel _ hp, ha, hab.1]
/-- All digits but these are the greatest: the count is at its end. -/
theorem dg_end {B m j : Nat} (hj : j < B ^ m) (h : j % B ^ m = B ^ m - 1) : j + 1 = B ^ m := by
  rw [Nat.mod_eq_of_lt hj] at h
  omega
theorem dg_notend {B m e j : Nat} (hB : 0 < B) (he : e < m) (hd : dg B e j + 1 < B) (hj : j < B ^ m) : j + 1 < B ^ m := by
  refine Nat.lt_of_le_of_ne hj fun hc => ?_
  have h1 : dg B e j = B - 1 := by
    unfold dg
    have hp : 0 < B ^ e := Nat.pow_pos hB
    obtain ⟨d, rfl⟩ : ∃ d, m = e + (d + 1) := ⟨m - e - 1, by omega⟩
    have h2 : j = B ^ e * (B ^ (d + 1) - 1) + (B ^ e - 1) := by
      have : j + 1 = B ^ e * B ^ (d + 1) := by rw [← Nat.pow_add]; exact hc
      have h3 : 0 < B ^ (d + 1) := Nat.pow_pos hB
      have h4 : B ^ e * (B ^ (d + 1) - 1) + B ^ e = B ^ e * B ^ (d + 1) := by
        rw [Nat.mul_sub_one]
        have := Nat.le_mul_of_pos_right (B ^ e) h3
        omega
      omega
    rw [h2, Nat.mul_add_div hp, Nat.div_eq_of_lt (by omega), Nat.add_zero, Nat.pow_succ]
    have h5 : B ^ d * B - 1 = B * (B ^ d - 1) + (B - 1) := by
      have h6 : 0 < B ^ d := Nat.pow_pos hB
      have h7 : B * (B ^ d - 1) + B = B * B ^ d := by
        rw [Nat.mul_sub_one]
        have := Nat.le_mul_of_pos_right B h6
        omega
      rw [Nat.mul_comm (B ^ d)]
      omega
    rw [h5, Nat.mul_add_mod, Nat.mod_eq_of_lt (by omega)]
  omega

theorem dg_zero (B j : Nat) : dg B 0 j = j % B := by unfold dg; rw [Nat.pow_zero, Nat.div_one]
theorem dg_div (B e j : Nat) : dg B (e + 1) j = dg B e (j / B) := by unfold dg; rw [Nat.pow_succ, Nat.mul_comm, Nat.div_div_eq_div_mul]
theorem dg_inj {B : Nat} (hB : 0 < B) : ∀ {m j k : Nat}, j < B ^ m → k < B ^ m → (∀ e, e < m → dg B e j = dg B e k) → j = k
  | 0, j, k, hj, hk, _ => by rw [Nat.pow_zero] at hj hk; omega
  | m + 1, j, k, hj, hk, h => by
    have h0 := h 0 (by omega)
    rw [dg_zero, dg_zero] at h0
    have hj' : j / B < B ^ m := Nat.div_lt_of_lt_mul (by rw [Nat.mul_comm, ← Nat.pow_succ]; exact hj)
    have hk' : k / B < B ^ m := Nat.div_lt_of_lt_mul (by rw [Nat.mul_comm, ← Nat.pow_succ]; exact hk)
    have ih := dg_inj hB hj' hk' fun e he => by rw [← dg_div, ← dg_div]; exact h (e + 1) (by omega)
    rw [← Nat.div_add_mod j B, ← Nat.div_add_mod k B, h0, ih]

/-! The lists, what they leave, and the best one. -/
/-- The j-th list of m numbers from 0 to B - 1. -/
def lst (B m j : Nat) : List Int := tabL m fun q => (dg B (m - 1 - q) j : Int)
theorem lst_len (B m j : Nat) : (lst B m j).length = m := tabL_len _ _
def lsum (B m j : Nat) : Int := sumN (fun q => (lst B m j).getD q 0) m
/-- What the j-th list leaves of zone i. -/
def leftK (h : List Int) (ws : List (List Int)) (c : List Int) (k i : Nat) : Int := h.getD i 0 - sumN (fun q => c.getD q 0 * (ws.getD q []).getD i 0) k
def fitsK (h v : List Int) (ws : List (List Int)) (T : Int) (c : List Int) : Bool := (List.range h.length).all fun i => withinB (leftK h ws c ws.length i - v.getD i 0) 0 T
/-- The best list of the first j ones. -/
def bestK (h v : List Int) (ws : List (List Int)) (T : Int) (B : Nat) : Nat → Option Nat
  | 0 => none
  | j + 1 => match bestK h v ws T B j with
    | none => if fitsK h v ws T (lst B ws.length j) = true then some j else none
    | some i => if lsum B ws.length j < lsum B ws.length i ∧ fitsK h v ws T (lst B ws.length j) = true then some j else some i
theorem bestK_fits {h v : List Int} {ws : List (List Int)} {T : Int} {B : Nat} : ∀ {j i : Nat}, bestK h v ws T B j = some i → i < j ∧ fitsK h v ws T (lst B ws.length i) = true
  | 0, _, e => by cases e
  | j + 1, i, e => by
    unfold bestK at e
    cases hb : bestK h v ws T B j with
    | none =>
      rw [hb] at e
      simp only at e
      by_cases hf : fitsK h v ws T (lst B ws.length j) = true
      · rw [if_pos hf] at e
        cases e
        exact ⟨by omega, hf⟩
      · rw [if_neg hf] at e; cases e
    | some i0 =>
      rw [hb] at e
      simp only at e
      have ih := bestK_fits hb
      by_cases hf : lsum B ws.length j < lsum B ws.length i0 ∧ fitsK h v ws T (lst B ws.length j) = true
      · rw [if_pos hf] at e
        cases e
        exact ⟨by omega, hf.2⟩
      · rw [if_neg hf] at e
        cases e
        exact ⟨by omega, ih.2⟩
end Go.Proofs.Ytnepjgnnppfibaa

end

section
/- A counter of lists of numbers: its sum, its next list. -/
namespace Go.Proofs.Ytnepjgnnppfibaa
open Go Go.RowKit

set_option maxRecDepth 100000 in
theorem csum_is (cb g m : Nat) (M : Int) (f : Nat → Int) (ext : List Value) (hf : ∀ q, q < m → 0 ≤ f q ∧ f q ≤ 100) (hm : m ≤ 6) (s : Int) (hs : sumN f m = s) (w : World) (hc : Blk w cb 148 #[.int .i64 M, .slice (some ⟨g, 0, none⟩) m m]) (hb : BlkL w g m f ext) :
    Calls Try.prog 111 #[.pointer (some ⟨cb, 0, none⟩)] w fun e w' => e = .returned (.int .i64 s) ∧ w = w' := by
  have c0 := hc.cell 0
  have c1 := hc.cell 1
  have hcl := hc.lt
  have HB := Lib.hid hb
  have HF := Lib.hid hf
  have HS := Lib.hid hs
  have hgl : g < w.heap.size := Blk.lt hb
  clear hc hb hf hs
  go_enter Try.func111, Try.ntmps111
  go_wp2
  go_loopw [3, 11] (fun v i wr => ∃ k : Nat, k ≤ m ∧ i = .int .i64 k ∧ v = .int .i64 (sumN f k) ∧ w = wr) (fun _ i _ => m - (intOf i).toNat)
  case atStart => exact ⟨0, by omega, rfl, rfl, rfl⟩
  case round =>
    obtain ⟨k, hk, rfl, rfl, rfl⟩ := hrel
    have hin := sumN_in k (f := f) (lo := 0) (hi := 100) (fun q hq => HF.out q (by omega)) k (Nat.le_refl _)
    obtain ⟨z, hz⟩ : ∃ z, sumN f k = z := ⟨_, rfl⟩
    rw [hz] at hin ⊢
    by_cases hkt : k < m
    · have hkk : (k : Int) < (m : Int) := by omega
      have cx := HB.out.cell hkt
      have hx := HF.out k hkt
      obtain ⟨x, hxx⟩ : ∃ x, f k = x := ⟨_, rfl⟩
      rw [hxx] at cx hx
      have e1 := IntWalk.i64_in (z + x) ⟨by omega, by omega⟩
      have HX := Lib.hid (show sumN f (k + 1) = z + x by show sumN f k + f k = _; rw [hz, hxx])
      clear hxx hz
      go_wp2
      go_roundw
      case rel => exact ⟨k + 1, by omega, by go_num, by rw [HX.out], trivial⟩
      case measure => simp [intOf]; omega
    · obtain rfl : m = k := by omega
      have HZ := Lib.hid (show s = z by rw [← HS.out, hz])
      clear hz
      go_wp2
      go_ret
      exact ⟨congrArg (fun b => Ending.returned (.int .i64 b)) HZ.out.symm, rfl⟩

/-- What the next list is. -/
def NextPost (B m j g : Nat) (ext : List Value) (w : World) (e : Ending) (w' : World) : Prop :=
  w.grownBy w' (some g) ∧ ((j + 1 < B ^ m ∧ e = .returned (.bool true) ∧ BlkL w' g m (fun q => (dg B (m - 1 - q) (j + 1) : Int)) ext) ∨ (j + 1 = B ^ m ∧ e = .returned (.bool false)))
set_option maxRecDepth 100000 in
set_option maxHeartbeats 4000000 in
theorem cnext_is (cb g m B j : Nat) (ext : List Value) (hB : 1 ≤ B ∧ B ≤ 101) (hm : m ≤ 6) (hj : j < B ^ m) (hne : cb ≠ g) (w : World) (hc : Blk w cb 148 #[.int .i64 ((B : Int) - 1), .slice (some ⟨g, 0, none⟩) m m]) (hb : BlkL w g m (fun q => (dg B (m - 1 - q) j : Int)) ext) :
    Calls Try.prog 110 #[.pointer (some ⟨cb, 0, none⟩)] w (NextPost B m j g ext w) := by
  have c0 := hc.cell 0
  have c1 := hc.cell 1
  have hcl := hc.lt
  have HC := Lib.hid hc
  have HB := Lib.hid hb
  have HJ := Lib.hid hj
  have em := IntWalk.i64_in ((m : Int) - 1) ⟨by omega, by omega⟩
  have hnn : ∀ {q : Nat}, q ≠ g → some q ≠ some g := fun h e => h (Option.some.inj e)
  have hgl : g < w.heap.size := Blk.lt hb
  clear hc hb hj
  go_enter Try.func110, Try.ntmps110
  go_wp2
  go_loopw [3] (fun v wr => ∃ (r : Nat) (z : Int), r ≤ m ∧ v = .int .i64 z ∧ z = (m : Int) - 1 - (r : Int) ∧ j % B ^ r = B ^ r - 1 ∧ w.grownBy wr (some g) ∧ BlkL wr g m (fun q => if m - 1 - q < r then 0 else (dg B (m - 1 - q) j : Int)) ext) (fun v _ => (intOf v + 1).toNat)
  case atStart => exact ⟨0, _, by omega, rfl, by omega, by rw [Nat.pow_zero, Nat.mod_one], World.grownBy.refl _ _, HB.out.congr fun q hq => by rw [if_neg (by omega)]⟩
  case round =>
    obtain ⟨r, z, hr, rfl, hz, hjm, hgr, hbl⟩ := hrel
    obtain ⟨w2, hnm⟩ : ∃ z : World, z = wr := ⟨_, rfl⟩
    subst hnm
    have hc2 := HC.out.grown hgr (hnn hne)
    have d0 := hc2.cell 0
    have d1 := hc2.cell 1
    have dl := hc2.lt
    have HGR := Lib.hid hgr
    have HBL := Lib.hid hbl
    have HJM := Lib.hid hjm
    by_cases hrm : r < m
    rotate_left
    · have hz0 : decide (0 ≤ z) = false := by simp; omega
      have hr2 : r = m := by omega
      have HEND := Lib.hid (show j + 1 = B ^ m from dg_end HJ.out (by rw [← hr2]; exact hjm))
      clear hgr hbl hjm hc2 hz
      go_wp2
      go_ret
      exact ⟨HGR.out, .inr ⟨HEND.out, rfl⟩⟩
    obtain ⟨i, hi⟩ : ∃ i : Nat, m = i + r + 1 := ⟨m - 1 - r, by omega⟩
    have hzi : z = (i : Int) := by omega
    have him : i < m := by omega
    have hii : (i : Int) < (m : Int) := by omega
    have hie : m - 1 - i = r := by omega
    have cx := hbl.cell him
    simp only [hie, Nat.lt_irrefl, if_false] at cx
    have cf := Blk.frozen hbl i
    have hdl : dg B r j < B := dg_lt (by omega)
    obtain ⟨x, hx⟩ : ∃ x, dg B r j = x := ⟨_, rfl⟩
    rw [hx] at cx hdl
    have HX := Lib.hid hx
    have HIE := Lib.hid hie
    have hg2 : g < w2.heap.size := Blk.lt hbl
    have HSET := Lib.hid fun (q : Nat) (u : Int) => (show BlkL (w2.drewN q) g m _ ext from Blk.drewN hbl q).set him u
    have hz0 : decide ((0 : Int) ≤ (i : Int)) = true := by simp
    subst hzi
    clear hgr hbl hjm hc2 hx hie hz
    by_cases hlt : x + 1 < B
    · have hd : decide ((x : Int) < (B : Int) - 1) = true := by simp; omega
      have e1 := IntWalk.i64_in ((x : Int) + 1) ⟨by omega, by omega⟩
      have HN := Lib.hid (dg_notend (by omega) (show r < m from hrm) (by rw [HX.out]; exact hlt) HJ.out)
      go_wp2
      go_quiet (fail)
      go_wp2
      go_ret
      refine ⟨only_setCell (only_drewN HGR.out _) (.inl rfl) _, .inl ⟨HN.out, rfl, (HSET.out _ _).congr fun q hq => ?_⟩⟩
      rw [dg_stop HJM.out (by rw [HX.out]; exact hlt) (m - 1 - q), HX.out]
      have hie := HIE.out
      by_cases e : q = i
      · subst e; rw [if_pos rfl, hie, if_neg (by omega), if_pos rfl]; push_cast; rfl
      · rw [if_neg e]
        by_cases e2 : m - 1 - q < r
        · rw [if_pos e2, if_pos e2]; rfl
        · rw [if_neg e2, if_neg e2, if_neg (by omega)]
    · have hd : decide ((x : Int) < (B : Int) - 1) = false := by simp; omega
      have e1 := IntWalk.i64_in ((i : Int) - 1) ⟨by omega, by omega⟩
      have HCR := Lib.hid (dg_carry (by omega) HJM.out (by rw [HX.out]; omega))
      go_wp2
      go_quiet (fail)
      go_wp2
      go_roundw
      case rel =>
        refine ⟨r + 1, (i : Int) - 1, by omega, rfl, by omega, HCR.out, only_setCell (only_drewN HGR.out _) (.inl rfl) _, (HSET.out _ _).congr fun q hq => ?_⟩
        have hie := HIE.out
        by_cases e : q = i
        · subst e; rw [if_pos rfl]; exact (if_pos (by omega)).symm
        · rw [if_neg e]
          by_cases e2 : m - 1 - q < r
          · rw [if_pos e2, if_pos (by omega)]
          · rw [if_neg e2, if_neg (by omega)]
      case measure => simp [intOf]
end Go.Proofs.Ytnepjgnnppfibaa

end

section
/- Whether numbers of sessions of each kind fit. -/
namespace Go.Proofs.Ytnepjgnnppfibaa
open Go Go.RowKit

theorem leftK_succ (h : List Int) (ws : List (List Int)) (c : List Int) (k i : Nat) : leftK h ws c (k + 1) i = leftK h ws c k i - c.getD k 0 * (ws.getD k []).getD i 0 := by
  unfold leftK
  show _ - (sumN _ k + c.getD k 0 * (ws.getD k []).getD i 0) = _
  omega
theorem leftK_in {h : List Int} {ws : List (List Int)} {c : List Int} {n i : Nat} (hh : ∀ z ∈ h, -100000 ≤ z ∧ z ≤ 100000) (hc : ∀ z ∈ c, 0 ≤ z ∧ z ≤ 100) (hw : ∀ q, q < n → ∀ z ∈ ws.getD q [], 0 ≤ z ∧ z ≤ 100000) (k : Nat) (hk : k ≤ n) (hn : n ≤ 6) : -61000000 ≤ leftK h ws c k i ∧ leftK h ws c k i ≤ 100000 := by
  have h1 := sumN_in n (f := fun q => c.getD q 0 * (ws.getD q []).getD i 0) (lo := 0) (hi := 10000000) (fun q hq => by
    have a1 : 0 ≤ c.getD q 0 ∧ c.getD q 0 ≤ 100 := getD_in (by omega) hc
    have a2 : 0 ≤ (ws.getD q []).getD i 0 ∧ (ws.getD q []).getD i 0 ≤ 100000 := getD_in (by omega) (hw q hq)
    have a3 := Int.mul_nonneg a1.1 a2.1
    have a4 := Int.mul_le_mul a1.2 a2.2 a2.1 (by omega)
    show 0 ≤ c.getD q 0 * (ws.getD q []).getD i 0 ∧ c.getD q 0 * (ws.getD q []).getD i 0 ≤ 10000000
    omega) k hk
  have h3 : -100000 ≤ h.getD i 0 ∧ h.getD i 0 ≤ 100000 := getD_in (by omega) hh
  unfold leftK
  omega
theorem fits_no {h v : List Int} {ws : List (List Int)} {T : Int} {c : List Int} {i : Nat} (hi : i < h.length) (hb : withinB (leftK h ws c ws.length i - v.getD i 0) 0 T = false) : fitsK h v ws T c = false := by
  unfold fitsK
  rw [List.all_eq_false]
  exact ⟨i, List.mem_range.2 hi, by rw [hb]; simp⟩
theorem fits_yes {h v : List Int} {ws : List (List Int)} {T : Int} {c : List Int} (hb : ∀ i, i < h.length → withinB (leftK h ws c ws.length i - v.getD i 0) 0 T = true) : fitsK h v ws T c = true := by
  unfold fitsK
  rw [List.all_eq_true]
  exact fun i hi => hb i (List.mem_range.1 hi)
/-- What the closure of FewestSessions holds: boxes of heights, of wanted ones, of the kinds. -/
structure FewAt (w : World) (bh bv bk n m : Nat) (A V B : Option Addr) (ch cv d : Nat) (h v : List Int) (t : List TRow) (M T : Int) : Prop where
  h0 : Blk w bh 22 #[.slice A n ch]
  v0 : Blk w bv 22 #[.slice V n cv]
  k0 : Blk w bk 107 #[.slice B m d, .int .i64 M, .int .i64 T]
  hx : Reads w w.heap.size 1 A n (h.map (.int .i64))
  vx : Reads w w.heap.size 1 V n (v.map (.int .i64))
  kx : ReadsT w w.heap.size B m t
section
variable {w w' : World} {bh bv bk n m : Nat} {A V B : Option Addr} {ch cv d : Nat} {h v : List Int} {t : List TRow} {M T : Int}
theorem FewAt.below (f : FewAt w bh bv bk n m A V B ch cv d h v t M T) (hb : Below w.heap.size w w') : FewAt w' bh bv bk n m A V B ch cv d h v t M T :=
  ⟨Blk.below f.h0 hb f.h0.lt, Blk.below f.v0 hb f.v0.lt, Blk.below f.k0 hb f.k0.lt, (f.hx.below hb).more hb.size, (f.vx.below hb).more hb.size, (f.kx.below hb).more hb.size⟩
end
set_option maxRecDepth 100000 in
set_option maxHeartbeats 4000000 in
theorem fitsc_is (bh bv bk n m g : Nat) (A V B : Option Addr) (ch cv d : Nat) (h v : List Int) (t : List TRow) (M T : Int) (f : Nat → Int) (ext : List Value) (hh : ∀ z ∈ h, -100000 ≤ z ∧ z ≤ 100000) (hv : ∀ z ∈ v, -100000 ≤ z ∧ z ≤ 100000) (hm : m ≤ 6) (hn : n ≤ 1000) (hf : ∀ q, q < m → 0 ≤ f q ∧ f q ≤ 100) (hw : ∀ r ∈ t, r.n = n ∧ ∀ z ∈ r.xs, 0 ≤ z ∧ z ≤ 100000)
    (b : Bool) (hb : fitsK h v (t.map (·.xs)) T (tabL m f) = b) (w : World) (hc : FewAt w bh bv bk n m A V B ch cv d h v t M T) (hg : BlkL w g m f ext) :
    Calls Try.prog 109 #[.slice (some ⟨g, 0, none⟩) m m, .pointer (some ⟨bh, 0, none⟩), .pointer (some ⟨bv, 0, none⟩), .pointer (some ⟨bk, 0, none⟩)] w fun e w' => e = .returned (.bool b) ∧ Below w.heap.size w w' := by
  have hl : h.length = n := by have := hc.hx.1; simpa using this
  have hvl : v.length = n := by have := hc.vx.1; simpa using this
  have htl : t.length = m := hc.kx.len
  have c0 := hc.h0.cell 0
  have lh := hc.h0.lt
  have HC := Lib.hid hc
  have HG := Lib.hid hg
  have HB := Lib.hid hb
  have HF := Lib.hid hf
  have HHH := Lib.hid hh
  have HHV := Lib.hid hv
  have HW := Lib.hid hw
  have HL := Lib.hid hl
  have HTL := Lib.hid htl
  have hin : ∀ k i, k ≤ m → -61000000 ≤ leftK h (t.map (·.xs)) (tabL m f) k i ∧ leftK h (t.map (·.xs)) (tabL m f) k i ≤ 100000 := fun k i hk =>
    leftK_in hh (fun z hz => by
      unfold tabL at hz
      obtain ⟨q, hq, rfl⟩ := List.mem_map.1 hz
      exact hf q (List.mem_range.1 hq)) (fun q hq z hz => by
      rw [List.getD_eq_getElem?_getD, List.getElem?_map, List.getElem?_eq_getElem (by rw [htl]; exact hq)] at hz
      exact (hw _ (List.getElem_mem (by rw [htl]; exact hq))).2 z hz) k hk hm
  have HIN := Lib.hid hin
  clear hc hg hb hf hh hv hw hl htl hvl hin
  go_enter Try.func109, Try.ntmps109
  go_wp2
  go_loopw [13] (fun x wr => ∃ i : Nat, i ≤ n ∧ x = .int .i64 i ∧ (∀ q, q < i → withinB (leftK h (t.map (·.xs)) (tabL m f) m q - v.getD q 0) 0 T = true) ∧ Below w.heap.size w wr) (fun x _ => n - (intOf x).toNat)
  case atStart => exact ⟨0, by omega, rfl, fun q hq => absurd hq (by omega), Below.refl _ _⟩
  case round =>
    clear c0 lh
    obtain ⟨i, hi, rfl, hok, hb⟩ := hrel
    obtain ⟨w2, hnm⟩ : ∃ z : World, z = wr := ⟨_, rfl⟩
    subst hnm
    have HOK := Lib.hid hok
    have HBW := Lib.hid hb
    have hc2 := HC.out.below hb
    have HC2 := Lib.hid hc2
    by_cases hit : i < n
    rotate_left
    · obtain rfl : n = i := by omega
      have HEND := Lib.hid (show b = true by rw [← HB.out]; exact fits_yes fun q hq => by rw [List.length_map, HTL.out]; exact HOK.out q (by rw [← HL.out]; exact hq))
      clear hok hb hc2
      go_wp2
      go_ret
      exact ⟨congrArg (fun b => Ending.returned (.bool b)) HEND.out.symm, HBW.out⟩
    have hii : (i : Int) < (n : Int) := by omega
    obtain ⟨xb, xo, x, rfl, hxb, gx, cx⟩ := hc2.hx.int_ hit
    obtain ⟨yb, yo, y, rfl, hyb, gy, cy⟩ := hc2.vx.int_ hit
    have v0 := hc2.v0.cell 0
    have k0 := hc2.k0.cell 0
    have lv := hc2.v0.lt
    have lk := hc2.k0.lt
    have hx := HHH.out x (List.mem_of_getElem? gx)
    have hy := HHV.out y (List.mem_of_getElem? gy)
    have e1 := IntWalk.i64_in (x - y) ⟨by omega, by omega⟩
    have HX := Lib.hid (show h.getD i 0 = x from getD_of gx)
    have HY := Lib.hid (show v.getD i 0 = y from getD_of gy)
    clear hok hb hc2 gx gy
    go_wp2
    go_loopw [8, 27] (fun z q wr => ∃ (k : Nat) (u : Int), k ≤ m ∧ q = .int .i64 k ∧ z = .int .i64 u ∧ u = leftK h (t.map (·.xs)) (tabL m f) k i - y ∧ Below w2.heap.size w2 wr) (fun _ q _ => m - (intOf q).toNat)
    case atStart => exact ⟨0, x - y, by omega, rfl, rfl, by unfold leftK sumN; rw [HX.out]; omega, Below.refl _ _⟩
    case round =>
      clear v0 k0 lv lk cx cy
      obtain ⟨k, u, hk, rfl, rfl, hu, hb⟩ := hrel
      obtain ⟨w3, hnm⟩ : ∃ z : World, z = wr := ⟨_, rfl⟩
      subst hnm
      have HBK := Lib.hid hb
      have HB3 := Lib.hid (HBW.out.trans (hb.mono HBW.out.size))
      have hc3 := HC2.out.below hb
      have hin := HIN.out k i hk
      have hul : -62000000 ≤ u ∧ u ≤ 300000 := by omega
      have HU := Lib.hid hu
      have hg3 := Blk.below (Blk.below HG.out HBW.out (Blk.lt HG.out)) hb (Blk.lt (Blk.below HG.out HBW.out (Blk.lt HG.out)))
      by_cases hkt : k < m
      rotate_left
      · obtain rfl : m = k := by omega
        have kt := hc3.k0.cell 2
        have lk := hc3.k0.lt
        obtain ⟨tb, htb⟩ : ∃ tb, withinB u 0 T = tb := ⟨_, rfl⟩
        have HTB := Lib.hid htb
        clear hb hc3 hin hu hg3 htb
        go_wp2_with fail
        refine (withinfig_is _ _ _ tb HTB.out _).mono ?_
        rintro e w' ⟨rfl, rfl⟩
        cases tb with
        | false =>
          have HEND := Lib.hid (show b = false by rw [← HB.out]; exact fits_no (i := i) (by rw [HL.out]; exact hit) (by rw [List.length_map, HTL.out, HY.out, ← HU.out]; exact HTB.out))
          go_wp2
          go_ret
          exact ⟨congrArg (fun b => Ending.returned (.bool b)) HEND.out.symm, HB3.out⟩
        | true =>
          go_wp2
          go_roundw
          case rel => exact ⟨i + 1, by omega, by go_num, fun q hq => by
            rcases Nat.lt_succ_iff_lt_or_eq.1 hq with h | h
            · exact HOK.out q h
            · rw [h, HY.out, ← HU.out]; exact HTB.out, HB3.out⟩
          case measure => simp [intOf]; omega
      have hkk : (k : Int) < (m : Int) := by omega
      obtain ⟨zb, zo, r, rfl, hzb, gr, cr, hrc, hrl, hrr⟩ := hc3.kx.at_ hkt
      obtain ⟨hrn, hrz⟩ := HW.out r (List.mem_of_getElem? gr)
      obtain ⟨ub, uo, a, hA, hub, ga, ca⟩ := hrr.int_ (show i < r.n by omega)
      obtain ⟨rA, rn, rc, rx⟩ := r
      simp only at hrn hA ga ca hrl hrr cr hrc hrz
      subst hA
      obtain rfl : n = rn := hrn.symm
      have cg := BlkL.cell hg3 hkt
      have hgl := Blk.lt hg3
      have hfk := HF.out k hkt
      obtain ⟨p, hp⟩ : ∃ p, f k = p := ⟨_, rfl⟩
      rw [hp] at cg hfk
      have haz := hrz a (List.mem_of_getElem? ga)
      have a3 := Int.mul_nonneg hfk.1 haz.1
      have a4 := Int.mul_le_mul hfk.2 haz.2 haz.1 (by omega)
      have e2 := IntWalk.i64_in (p * a) ⟨by omega, by omega⟩
      have e3 := IntWalk.i64_in (u - p * a) ⟨by omega, by omega⟩
      have HNX := Lib.hid (show u - p * a = leftK h (t.map (·.xs)) (tabL m f) (k + 1) i - y by
        rw [leftK_succ, hu, tabL_getD f hkt, hp, show (t.map (·.xs)).getD k [] = rx by rw [getD_of (show (t.map (·.xs))[k]? = some rx by rw [List.getElem?_map, gr]; rfl)], getD_of ga]
        omega)
      have k0 := hc3.k0.cell 0
      have lk := hc3.k0.lt
      clear hb hc3 hin hu hg3 gr ga hrr hp a3 a4
      go_wp2
      go_quiet (fail)
      go_wp2
      go_roundw
      case rel => exact ⟨k + 1, u - p * a, by omega, by go_num, rfl, HNX.out, below_drewN HBK.out _⟩
      case measure => simp [intOf]; omega
end Go.Proofs.Ytnepjgnnppfibaa

end
