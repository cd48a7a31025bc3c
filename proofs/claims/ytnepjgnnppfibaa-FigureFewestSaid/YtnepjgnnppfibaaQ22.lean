import Derived.Test.YtnepjgnnppfibaaQ21
import Derived.Test.YtnepjgnnppfibaaQ5
import Derived.Test.YtnepjgnnppfibaaQ3
import Derived.Laws.OwnMore

section
/- The errors of kinds of sessions. -/
namespace Go.Proofs.Ytnepjgnnppfibaa
open Go Go.RowKit

/-- The error of kinds of sessions on n zones. -/
def kindErr (n : Nat) (ws : List (List Int)) (M T : Int) : Int :=
  if withinB (ws.length : Int) 1 6 = false then 10 else if firstErr (wearErr n) ws ≠ 0 then firstErr (wearErr n) ws else if (withinB M 0 100 && withinB T 0 100000) = false then 2 else if 100000 < (M + 1) ^ ws.length then 8 else 0
section
variable {n : Nat} {ws : List (List Int)} {M T : Int}
theorem kind_shape (h : withinB (ws.length : Int) 1 6 = false) : kindErr n ws M T = 10 := by unfold kindErr; rw [if_pos h]
theorem kind_wear (h : withinB (ws.length : Int) 1 6 = true) (hf : firstErr (wearErr n) ws ≠ 0) : kindErr n ws M T = firstErr (wearErr n) ws := by unfold kindErr; rw [if_neg (by rw [h]; simp), if_pos hf]
theorem kind_range (h : withinB (ws.length : Int) 1 6 = true) (hf : firstErr (wearErr n) ws = 0) (hr : (withinB M 0 100 && withinB T 0 100000) = false) : kindErr n ws M T = 2 := by unfold kindErr; rw [if_neg (by rw [h]; simp), if_neg (by simpa using hf), if_pos hr]
theorem kind_large (h : withinB (ws.length : Int) 1 6 = true) (hf : firstErr (wearErr n) ws = 0) (hr : (withinB M 0 100 && withinB T 0 100000) = true) (hl : 100000 < (M + 1) ^ ws.length) : kindErr n ws M T = 8 := by unfold kindErr; rw [if_neg (by rw [h]; simp), if_neg (by simpa using hf), if_neg (by rw [hr]; simp), if_pos hl]
theorem kind_fine (h : withinB (ws.length : Int) 1 6 = true) (hf : firstErr (wearErr n) ws = 0) (hr : (withinB M 0 100 && withinB T 0 100000) = true) (hl : ¬ 100000 < (M + 1) ^ ws.length) : kindErr n ws M T = 0 := by unfold kindErr; rw [if_neg (by rw [h]; simp), if_neg (by simpa using hf), if_neg (by rw [hr]; simp), if_neg hl]
theorem kind_ok (h : kindErr n ws M T = 0) : (1 ≤ ws.length ∧ ws.length ≤ 6) ∧ (∀ l ∈ ws, wearErr n l = 0) ∧ (0 ≤ M ∧ M ≤ 100) ∧ (0 ≤ T ∧ T ≤ 100000) ∧ (M + 1) ^ ws.length ≤ 100000 := by
  cases h1 : withinB (ws.length : Int) 1 6 with
  | false => rw [kind_shape h1] at h; cases h
  | true =>
    by_cases h2 : firstErr (wearErr n) ws ≠ 0
    · rw [kind_wear h1 h2] at h; exact absurd h h2
    have h2 := Decidable.not_not.1 h2
    cases h3 : (withinB M 0 100 && withinB T 0 100000) with
    | false => rw [kind_range h1 h2 h3] at h; cases h
    | true =>
      by_cases h4 : 100000 < (M + 1) ^ ws.length
      · rw [kind_large h1 h2 h3 h4] at h; cases h
      obtain ⟨a, b⟩ : withinB M 0 100 = true ∧ withinB T 0 100000 = true := by simpa using h3
      have a := within_yes a
      have b := within_yes b
      have c := within_yes h1
      exact ⟨by omega, fun l hl => firstErr_zero h2 l hl, a, b, by omega⟩
theorem pow_more {M : Int} (hM : 0 ≤ M) (k : Nat) : ∀ d, (M + 1) ^ k ≤ (M + 1) ^ (k + d) ∧ 1 ≤ (M + 1) ^ (k + d)
  | 0 => by
    refine ⟨Int.le_refl _, ?_⟩
    induction k with
    | zero => rw [Int.pow_zero]; exact Int.le_refl _
    | succ k ih =>
      have := Int.mul_le_mul (show (1 : Int) ≤ (M + 1) ^ (k + 0) from ih) (show 1 ≤ M + 1 by omega) (by omega) (by have : 1 ≤ (M + 1) ^ (k + 0) := ih; omega)
      rw [Nat.add_zero, Int.pow_succ]
      exact this
  | d + 1 => by
    have ih := pow_more hM k d
    have h1 : (M + 1) ^ (k + d) * 1 ≤ (M + 1) ^ (k + d) * (M + 1) := Int.mul_le_mul_of_nonneg_left (by omega) (by omega)
    rw [show k + (d + 1) = k + d + 1 from rfl, Int.pow_succ]
    omega
end
theorem wear_take {n : Nat} {ws : List (List Int)} {k : Nat} {x : List Int} (hx : ws[k]? = some x) (h : ∀ y ∈ ws.take k, wearErr n y = 0) (h0 : wearErr n x = 0) : ∀ y ∈ ws.take (k + 1), wearErr n y = 0 := by
  intro y hy
  rw [List.take_add_one, hx] at hy
  rcases List.mem_append.1 hy with h1 | h1
  · exact h y h1
  · have : y = x := by simpa using h1
    rw [this]; exact h0

set_option maxRecDepth 100000 in
set_option maxHeartbeats 4000000 in
theorem checkkinds_is (n m d : Nat) (B : Option Addr) (t : List TRow) (M T E : Int) (hE : kindErr n (t.map (·.xs)) M T = E) (hm : m ≤ 1000000) (w : World) (hk : ReadsT w w.heap.size B m t) :
    Calls Try.prog 108 #[.agg #[.slice B m d, .int .i64 M, .int .i64 T], .int .i64 (n : Int)] w fun e w' => e = .returned (.int .i64 E) ∧ Below w.heap.size w w' := by
  have htl : (t.map (·.xs)).length = m := by rw [List.length_map]; exact hk.len
  have HE := Lib.hid hE
  have HTL := Lib.hid htl
  have HK := Lib.hid hk
  obtain ⟨tz, htz⟩ : ∃ b, withinB (m : Int) 1 6 = b := ⟨_, rfl⟩
  have HTZ := Lib.hid htz
  clear hE htl htz
  cases tz with
  | false =>
    have HEE := Lib.hid (show (10 : Int) = E by rw [← HE.out]; exact (kind_shape (by rw [HTL.out]; exact HTZ.out)).symm)
    clear hk
    go_enter Try.func108, Try.ntmps108
    go_wp2_with fail
    generalize hwn : (w.alloc (.cells #[.slice B m d, .int .i64 (M), .int .i64 (T)] 107)) = w1
    have hbn : Below w.heap.size w w1 := by rw [← hwn]; repeat' (first | exact Below.refl _ _ | refine below_drewN ?_ _ | refine Below.drew ?_ | refine Below.alloc ?_ (by first | omega | (simp; done) | (simp; omega) | (simp [World.setCell]; omega)) _ | refine Below.setCell ?_ (by first | omega | (simp; done) | (simp; omega)) _)
    have HB1 := Lib.hid (show Below w.heap.size w w1 from hbn)
    have K0_1 := Lib.hid (show Blk w1 (w.heap.size) 107 #[.slice B m d, .int .i64 (M), .int .i64 (T)] by rw [← hwn]; repeat' (first | exact Blk.at_ _ (by first | rfl | (simp; done) | (simp; omega)) _ _ | refine Blk.drewN ?_ _ | refine Blk.drew ?_ | refine Blk.alloc ?_ _ | refine Blk.far ?_ (by first | omega | (simp; done) | (simp; omega)) _ | assumption))
    have HN1 := Lib.hid hbn
    have hz1 := hbn.size
    clear hwn hbn
    have l0_1 : w.heap.size < w1.heap.size := K0_1.out.lt
    have z0_0_1 : w1.cell? ⟨w.heap.size, 0, none⟩ = some (.slice B m d) := K0_1.out.cell 0
    have z0_1_1 : w1.cell? ⟨w.heap.size, 1, none⟩ = some (.int .i64 (M)) := K0_1.out.cell 1
    have z0_2_1 : w1.cell? ⟨w.heap.size, 2, none⟩ = some (.int .i64 (T)) := K0_1.out.cell 2
    go_wp2_with fail
    refine (withinfig_is _ _ _ false HTZ.out _).mono ?_
    rintro e w' ⟨rfl, rfl⟩
    go_wp2
    go_ret
    exact ⟨congrArg (fun b => Ending.returned (.int .i64 b)) HEE.out, by repeat' (first | exact Below.refl _ _ | exact HB1.out | refine below_drewN ?_ _ | refine Below.drew ?_ | refine Below.alloc ?_ (by first | omega | (simp; done) | (simp; omega) | (simp [World.setCell]; omega)) _ | refine Below.setCell ?_ (by first | omega | (simp; done) | (simp; omega)) _ | assumption)⟩
  | true =>
    have hmz := within_yes HTZ.out
    clear hk
    go_enter Try.func108, Try.ntmps108
    go_wp2_with fail
    generalize hwn : (w.alloc (.cells #[.slice B m d, .int .i64 (M), .int .i64 (T)] 107)) = w1
    have hbn : Below w.heap.size w w1 := by rw [← hwn]; repeat' (first | exact Below.refl _ _ | refine below_drewN ?_ _ | refine Below.drew ?_ | refine Below.alloc ?_ (by first | omega | (simp; done) | (simp; omega) | (simp [World.setCell]; omega)) _ | refine Below.setCell ?_ (by first | omega | (simp; done) | (simp; omega)) _)
    have HB1 := Lib.hid (show Below w.heap.size w w1 from hbn)
    have K0_1 := Lib.hid (show Blk w1 (w.heap.size) 107 #[.slice B m d, .int .i64 (M), .int .i64 (T)] by rw [← hwn]; repeat' (first | exact Blk.at_ _ (by first | rfl | (simp; done) | (simp; omega)) _ _ | refine Blk.drewN ?_ _ | refine Blk.drew ?_ | refine Blk.alloc ?_ _ | refine Blk.far ?_ (by first | omega | (simp; done) | (simp; omega)) _ | assumption))
    have HN1 := Lib.hid hbn
    have hz1 := hbn.size
    clear hwn hbn
    have l0_1 : w.heap.size < w1.heap.size := K0_1.out.lt
    have z0_0_1 : w1.cell? ⟨w.heap.size, 0, none⟩ = some (.slice B m d) := K0_1.out.cell 0
    have z0_1_1 : w1.cell? ⟨w.heap.size, 1, none⟩ = some (.int .i64 (M)) := K0_1.out.cell 1
    have z0_2_1 : w1.cell? ⟨w.heap.size, 2, none⟩ = some (.int .i64 (T)) := K0_1.out.cell 2
    have KP := K0_1
    go_wp2_with fail
    refine (withinfig_is _ _ _ true HTZ.out _).mono ?_
    rintro e w' ⟨rfl, rfl⟩
    go_wp2
    go_loopw [17] (fun v wr => ∃ k : Nat, k ≤ m ∧ v = .int .i64 k ∧ (∀ y ∈ (t.map (·.xs)).take k, wearErr n y = 0) ∧ Below w1.heap.size w1 wr) (fun v _ => m - (intOf v).toNat)
    case atStart => exact ⟨0, by omega, rfl, by simp, Below.refl _ _⟩
    case round =>
      obtain ⟨k, hk, rfl, hwk, hb⟩ := hrel
      obtain ⟨w2, hnm⟩ : ∃ z : World, z = wr := ⟨_, rfl⟩
      subst hnm
      have HWK := Lib.hid hwk
      have HBW := Lib.hid hb
      have hb' := HB1.out.trans (hb.mono HB1.out.size)
      have HB02 := Lib.hid hb'
      have k0 := Blk.below KP.out hb KP.out.lt
      have hkt := HK.out.below hb'
      clear hwk hb
      by_cases hlt : k < m
      · have hkk : (k : Int) < (m : Int) := by omega
        obtain ⟨zb, zo, r, rfl, hzb, gr, cr, hrc, hrl, hrr⟩ := hkt.at_ hlt
        obtain ⟨rA, rn, rc, rx⟩ := r
        simp only at cr hrc hrl hrr
        have hgx : (t.map (·.xs))[k]? = some rx := by rw [List.getElem?_map, gr]; rfl
        obtain ⟨F, hF⟩ : ∃ F, wearErr n rx = F := ⟨_, rfl⟩
        have HF := Lib.hid hF
        have HGX := Lib.hid hgx
        have hrr2 := hrr.more HB02.out.size
        have HRR := Lib.hid hrr2
        clear hkt gr hgx hF hrr hrr2 k0 hb'
        go_wp2_with fail
        refine (wear_is rA rn rc rx n F HF.out _ HRR.out (by omega)).mono ?_
        rintro e w3 ⟨rfl, hb3⟩
        have HB3 := Lib.hid (HBW.out.trans (hb3.mono HBW.out.size))
        have HB03 := Lib.hid (HB02.out.trans (hb3.mono HB02.out.size))
        clear hb3
        by_cases h0 : F = 0
        rotate_left
        · have e1 : (F != 0) = true := by simpa using h0
          have HEE := Lib.hid (show F = E by
            rw [← HE.out]
            have h1 := firstErr_at (f := wearErr n) HGX.out HWK.out (by rw [HF.out]; exact h0)
            rw [kind_wear (by rw [HTL.out]; exact HTZ.out) (by rw [h1, HF.out]; exact h0), h1, HF.out])
          clear h0
          go_wp2
          go_ret
          exact ⟨congrArg (fun b => Ending.returned (.int .i64 b)) HEE.out, HB03.out⟩
        subst h0
        have e1 : ((0 : Int) != 0) = false := by simp
        go_wp2
        go_roundw
        case rel => exact ⟨k + 1, by omega, by go_num, wear_take HGX.out HWK.out HF.out, HB3.out⟩
        case measure => simp [intOf]; omega
      obtain rfl : m = k := by omega
      have HFE := Lib.hid (show firstErr (wearErr n) (t.map (·.xs)) = 0 from firstErr_ok fun x hx => HWK.out x (by rw [List.take_of_length_le (by rw [HTL.out]; exact Nat.le_refl _)]; exact hx))
      clear hkt hb'
      have hb' := HB02.out
      have HB2 := Lib.hid hb'
      have K0_2 := Lib.hid (show Blk w2 (w.heap.size) 107 #[.slice B m d, .int .i64 (M), .int .i64 (T)] from k0)
      clear hb' k0
      have l0_2 : w.heap.size < w2.heap.size := K0_2.out.lt
      have z0_0_2 : w2.cell? ⟨w.heap.size, 0, none⟩ = some (.slice B m d) := K0_2.out.cell 0
      have z0_1_2 : w2.cell? ⟨w.heap.size, 1, none⟩ = some (.int .i64 (M)) := K0_2.out.cell 1
      have z0_2_2 : w2.cell? ⟨w.heap.size, 2, none⟩ = some (.int .i64 (T)) := K0_2.out.cell 2
      obtain ⟨ta, hta⟩ : ∃ b, withinB M 0 100 = b := ⟨_, rfl⟩
      obtain ⟨tb, htb⟩ : ∃ b, withinB T 0 100000 = b := ⟨_, rfl⟩
      have HTA := Lib.hid hta
      have HTB := Lib.hid htb
      clear hta htb
      go_wp2_with fail
      refine (withinfig_is _ _ _ ta HTA.out _).mono ?_
      rintro e w' ⟨rfl, rfl⟩
      cases ta with
      | false =>
        have HEE := Lib.hid (show (2 : Int) = E by rw [← HE.out]; exact (kind_range (by rw [HTL.out]; exact HTZ.out) HFE.out (by rw [HTA.out]; rfl)).symm)
        go_wp2
        go_ret
        exact ⟨congrArg (fun b => Ending.returned (.int .i64 b)) HEE.out, HB02.out⟩
      | true =>
        go_wp2_with fail
        refine (withinfig_is _ _ _ tb HTB.out _).mono ?_
        rintro e w' ⟨rfl, rfl⟩
        cases tb with
        | false =>
          have HEE := Lib.hid (show (2 : Int) = E by rw [← HE.out]; exact (kind_range (by rw [HTL.out]; exact HTZ.out) HFE.out (by rw [HTA.out, HTB.out]; rfl)).symm)
          go_wp2
          go_ret
          exact ⟨congrArg (fun b => Ending.returned (.int .i64 b)) HEE.out, HB02.out⟩
        | true =>
          have hM := within_yes HTA.out
          have em := IntWalk.i64_in (M + 1) ⟨by omega, by omega⟩
          go_wp2
          go_loopw [8, 41] (fun v q wr => ∃ (k : Nat) (z : Int), k ≤ m ∧ q = .int .i64 k ∧ v = .int .i64 z ∧ z = (M + 1) ^ k ∧ z ≤ 100000 ∧ w2 = wr) (fun _ q _ => m - (intOf q).toNat)
          case atStart => exact ⟨0, 1, by omega, rfl, rfl, by rw [Int.pow_zero], by omega, rfl⟩
          case round =>
            obtain ⟨k, z, hk, rfl, rfl, hz, hzl, rfl⟩ := hrel
            have hz1 : 1 ≤ z := by have := (pow_more hM.1 k 0).2; rw [hz]; exact this
            have HZ := Lib.hid hz
            clear hz
            by_cases hlt : k < m
            rotate_left
            · obtain rfl : m = k := by omega
              have HEE := Lib.hid (show (0 : Int) = E by rw [← HE.out]; exact (kind_fine (by rw [HTL.out]; exact HTZ.out) HFE.out (by rw [HTA.out, HTB.out]; rfl) (by rw [HTL.out, ← HZ.out]; omega)).symm)
              go_wp2
              go_ret
              exact ⟨congrArg (fun b => Ending.returned (.int .i64 b)) HEE.out, HB02.out⟩
            have hkk : (k : Int) < (m : Int) := by omega
            have a1 := Int.mul_le_mul hzl (show M + 1 ≤ 101 by omega) (by omega) (by omega)
            have a2 := Int.mul_nonneg (show 0 ≤ z by omega) (show 0 ≤ M + 1 by omega)
            obtain ⟨y, hy⟩ : ∃ y, z * (M + 1) = y := ⟨_, rfl⟩
            rw [hy] at a1 a2
            have e1 : IntKind.i64.wrap (z * (M + 1)) = y := by rw [hy]; exact IntWalk.i64_in y ⟨by omega, by omega⟩
            have HY := Lib.hid (show y = (M + 1) ^ (k + 1) by rw [Int.pow_succ, ← HZ.out, hy])
            clear hy a1 a2
            by_cases hl : 100000 < y
            · have hd : decide ((100000 : Int) < y) = true := by simpa using hl
              have HEE := Lib.hid (show (8 : Int) = E by
                rw [← HE.out]
                refine (kind_large (by rw [HTL.out]; exact HTZ.out) HFE.out (by rw [HTA.out, HTB.out]; rfl) ?_).symm
                have h1 := (pow_more hM.1 (k + 1) (m - (k + 1))).1
                rw [show k + 1 + (m - (k + 1)) = m by omega, ← HY.out] at h1
                rw [HTL.out]
                omega)
              go_wp2
              go_ret
              exact ⟨congrArg (fun b => Ending.returned (.int .i64 b)) HEE.out, HB02.out⟩
            have hd : decide ((100000 : Int) < y) = false := by simpa using hl
            go_wp2
            go_roundw
            case rel => exact ⟨k + 1, y, by omega, by go_num, rfl, HY.out, by omega, trivial⟩
            case measure => simp [intOf]; omega
end Go.Proofs.Ytnepjgnnppfibaa

end

section
/- The fewest sessions: what is answered; the errors. -/
namespace Go.Proofs.Ytnepjgnnppfibaa
open Go Go.RowKit

/-- The error of the fewest sessions. -/
def fewErr (h v : List Int) (ws : List (List Int)) (M T : Int) : Int :=
  if twoErr h v ≠ 0 then twoErr h v else if kindErr h.length ws M T ≠ 0 then kindErr h.length ws M T else if (bestK h v ws T (M + 1).toNat ((M + 1).toNat ^ ws.length)).isNone then 12 else 0
def FewPost (h v : List Int) (ws : List (List Int)) (M T : Int) (m : Nat) (E : Int) (w : World) (e : Ending) (w' : World) : Prop :=
  Below w.heap.size w w' ∧ ((E ≠ 0 ∧ e = .returned (.tuple #[.slice none 0 0, .int .i64 E])) ∨ (E = 0 ∧ ∃ A c i, bestK h v ws T (M + 1).toNat ((M + 1).toNat ^ ws.length) = some i ∧ e = .returned (.tuple #[.slice A m c, .int .i64 0]) ∧ Reads w' w'.heap.size 1 A m ((lst (M + 1).toNat m i).map (.int .i64))))
theorem FewPost.bad {h v : List Int} {ws : List (List Int)} {M T : Int} {m : Nat} {E : Int} {w w' : World} {e : Ending} (h0 : E ≠ 0) (he : e = .returned (.tuple #[.slice none 0 0, .int .i64 E])) (hb : Below w.heap.size w w') : FewPost h v ws M T m E w e w' := ⟨hb, .inl ⟨h0, he⟩⟩

set_option maxRecDepth 100000 in
set_option maxHeartbeats 4000000 in
theorem few_bad (A V B : Option Addr) (n ch nv cv m d : Nat) (h v : List Int) (t : List TRow) (M T E : Int) (hE : fewErr h v (t.map (·.xs)) M T = E) (hn : n ≤ 1000) (hnv : nv ≤ 1000) (hm : m ≤ 1000) (h1 : twoErr h v ≠ 0 ∨ kindErr n (t.map (·.xs)) M T ≠ 0) (w : World) (hx : Reads w w.heap.size 1 A n (h.map (.int .i64))) (hv : Reads w w.heap.size 1 V nv (v.map (.int .i64))) (hk : ReadsT w w.heap.size B m t) :
    Calls Try.prog 69 #[.slice A n ch, .slice V nv cv, .agg #[.slice B m d, .int .i64 M, .int .i64 T]] w (FewPost h v (t.map (·.xs)) M T m E w) := by
  have hl : h.length = n := by have := hx.1; simpa using this
  obtain ⟨E1, hE1⟩ : ∃ E, twoErr h v = E := ⟨_, rfl⟩
  have HE1 := Lib.hid hE1
  by_cases h0 : E1 = 0
  rotate_left
  · have HEE := Lib.hid (show E1 = E by rw [← hE]; unfold fewErr; rw [hE1, if_pos h0])
    have H0 := Lib.hid (show E ≠ 0 by rw [← HEE.out]; exact h0)
    have e1 : (E1 != 0) = true := by simpa using h0
    clear h0 hE1 hl hE h1 hk
    go_enter Try.func69, Try.ntmps69
    have R0_0 := Lib.hid hx
    clear hx
    have R1_0 := Lib.hid hv
    clear hv
    go_wp2_with fail
    generalize hwn : (((w.alloc (.cells #[.slice A n ch] 22)).alloc (.cells #[.slice V nv cv] 22)).alloc (.cells #[.slice B m d, .int .i64 (M), .int .i64 (T)] 107)) = w1
    have hbn : Below w.heap.size w w1 := by rw [← hwn]; repeat' (first | exact Below.refl _ _ | refine below_drewN ?_ _ | refine Below.drew ?_ | refine Below.alloc ?_ (by first | omega | (simp; done) | (simp; omega) | (simp [World.setCell]; omega)) _ | refine Below.setCell ?_ (by first | omega | (simp; done) | (simp; omega)) _)
    have HB1 := Lib.hid (show Below w.heap.size w w1 from hbn)
    have K0_1 := Lib.hid (show Blk w1 (w.heap.size) 22 #[.slice A n ch] by rw [← hwn]; repeat' (first | exact Blk.at_ _ (by first | rfl | (simp; done) | (simp; omega)) _ _ | refine Blk.drewN ?_ _ | refine Blk.drew ?_ | refine Blk.alloc ?_ _ | refine Blk.far ?_ (by first | omega | (simp; done) | (simp; omega)) _ | assumption))
    have K1_1 := Lib.hid (show Blk w1 (w.heap.size + 1) 22 #[.slice V nv cv] by rw [← hwn]; repeat' (first | exact Blk.at_ _ (by first | rfl | (simp; done) | (simp; omega)) _ _ | refine Blk.drewN ?_ _ | refine Blk.drew ?_ | refine Blk.alloc ?_ _ | refine Blk.far ?_ (by first | omega | (simp; done) | (simp; omega)) _ | assumption))
    have K2_1 := Lib.hid (show Blk w1 (w.heap.size + 1 + 1) 107 #[.slice B m d, .int .i64 (M), .int .i64 (T)] by rw [← hwn]; repeat' (first | exact Blk.at_ _ (by first | rfl | (simp; done) | (simp; omega)) _ _ | refine Blk.drewN ?_ _ | refine Blk.drew ?_ | refine Blk.alloc ?_ _ | refine Blk.far ?_ (by first | omega | (simp; done) | (simp; omega)) _ | assumption))
    have R0_1 := Lib.hid ((R0_0.out.below hbn).more hbn.size)
    have R1_1 := Lib.hid ((R1_0.out.below hbn).more hbn.size)
    have HN1 := Lib.hid hbn
    have hz1 := hbn.size
    clear hwn hbn R0_0 R1_0
    have l0_1 : w.heap.size < w1.heap.size := K0_1.out.lt
    have z0_0_1 : w1.cell? ⟨w.heap.size, 0, none⟩ = some (.slice A n ch) := K0_1.out.cell 0
    have l1_1 : w.heap.size + 1 < w1.heap.size := K1_1.out.lt
    have z1_0_1 : w1.cell? ⟨w.heap.size + 1, 0, none⟩ = some (.slice V nv cv) := K1_1.out.cell 0
    have l2_1 : w.heap.size + 1 + 1 < w1.heap.size := K2_1.out.lt
    have z2_0_1 : w1.cell? ⟨w.heap.size + 1 + 1, 0, none⟩ = some (.slice B m d) := K2_1.out.cell 0
    have z2_1_1 : w1.cell? ⟨w.heap.size + 1 + 1, 1, none⟩ = some (.int .i64 (M)) := K2_1.out.cell 1
    have z2_2_1 : w1.cell? ⟨w.heap.size + 1 + 1, 2, none⟩ = some (.int .i64 (T)) := K2_1.out.cell 2
    refine (both_is A n ch V nv cv h v E1 HE1.out _ R0_1.out (by omega) R1_1.out (by omega)).mono ?_
    rintro e w2 ⟨rfl, hb⟩
    have HB2 := Lib.hid (show Below w.heap.size w w2 from step_below hb (by repeat' (first | exact Below.refl _ _ | exact HB1.out | refine below_drewN ?_ _ | refine Below.drew ?_ | refine Below.alloc ?_ (by first | omega | (simp; done) | (simp; omega) | (simp [World.setCell]; omega)) _ | refine Below.setCell ?_ (by first | omega | (simp; done) | (simp; omega)) _ | assumption)))
    have K0_2 := Lib.hid (step_blk hb (show Blk _ (w.heap.size) 22 #[.slice A n ch] by repeat' (first | exact K0_1.out | exact K1_1.out | exact K2_1.out | exact Blk.at_ _ (by first | rfl | (simp; done) | (simp; omega)) _ _ | refine Blk.drewN ?_ _ | refine Blk.drew ?_ | refine Blk.alloc ?_ _ | refine Blk.far ?_ (by first | omega | (simp; done) | (simp; omega)) _ | assumption)))
    have K1_2 := Lib.hid (step_blk hb (show Blk _ (w.heap.size + 1) 22 #[.slice V nv cv] by repeat' (first | exact K0_1.out | exact K1_1.out | exact K2_1.out | exact Blk.at_ _ (by first | rfl | (simp; done) | (simp; omega)) _ _ | refine Blk.drewN ?_ _ | refine Blk.drew ?_ | refine Blk.alloc ?_ _ | refine Blk.far ?_ (by first | omega | (simp; done) | (simp; omega)) _ | assumption)))
    have K2_2 := Lib.hid (step_blk hb (show Blk _ (w.heap.size + 1 + 1) 107 #[.slice B m d, .int .i64 (M), .int .i64 (T)] by repeat' (first | exact K0_1.out | exact K1_1.out | exact K2_1.out | exact Blk.at_ _ (by first | rfl | (simp; done) | (simp; omega)) _ _ | refine Blk.drewN ?_ _ | refine Blk.drew ?_ | refine Blk.alloc ?_ _ | refine Blk.far ?_ (by first | omega | (simp; done) | (simp; omega)) _ | assumption)))
    have hL2 := Lib.hid (show Below w1.heap.size w1 _ from reads_mid hb (by repeat' (first | exact Below.refl _ _ | refine below_drewN ?_ _ | refine Below.drew ?_ | refine Below.alloc ?_ (by first | omega | (simp; done) | (simp; omega) | (simp [World.setCell]; omega)) _ | refine Below.setCell ?_ (by first | omega | (simp; done) | (simp; omega)) _)))
    have R0_2 := Lib.hid (reads_lay hb hL2.out R0_1.out)
    have R1_2 := Lib.hid (reads_lay hb hL2.out R1_1.out)
    clear hL2 R0_1 R1_1
    have hz2 := hb.size
    try simp only [World.size_alloc, World.drewN, World.drew] at hz2
    clear hb K0_1 K1_1 K2_1 z0_0_1 l0_1 z1_0_1 l1_1 z2_0_1 z2_1_1 z2_2_1 l2_1
    have l0_2 : w.heap.size < w2.heap.size := K0_2.out.lt
    have z0_0_2 : w2.cell? ⟨w.heap.size, 0, none⟩ = some (.slice A n ch) := K0_2.out.cell 0
    have l1_2 : w.heap.size + 1 < w2.heap.size := K1_2.out.lt
    have z1_0_2 : w2.cell? ⟨w.heap.size + 1, 0, none⟩ = some (.slice V nv cv) := K1_2.out.cell 0
    have l2_2 : w.heap.size + 1 + 1 < w2.heap.size := K2_2.out.lt
    have z2_0_2 : w2.cell? ⟨w.heap.size + 1 + 1, 0, none⟩ = some (.slice B m d) := K2_2.out.cell 0
    have z2_1_2 : w2.cell? ⟨w.heap.size + 1 + 1, 1, none⟩ = some (.int .i64 (M)) := K2_2.out.cell 1
    have z2_2_2 : w2.cell? ⟨w.heap.size + 1 + 1, 2, none⟩ = some (.int .i64 (T)) := K2_2.out.cell 2
    go_wp2
    go_ret2
    exact FewPost.bad H0.out (by rw [← HEE.out]; rfl) HB2.out
  subst h0
  obtain ⟨E2, hE2⟩ : ∃ E, kindErr n (t.map (·.xs)) M T = E := ⟨_, rfl⟩
  have h2 : E2 ≠ 0 := by
    rcases h1 with h1 | h1
    · exact absurd hE1 h1
    · rw [← hE2]; exact h1
  have HE2 := Lib.hid hE2
  have HEE := Lib.hid (show E2 = E by rw [← hE]; unfold fewErr; rw [hE1, if_neg (by simp), hl, hE2, if_pos h2])
  have H0 := Lib.hid (show E ≠ 0 by rw [← HEE.out]; exact h2)
  have e1 : (E2 != 0) = true := by simpa using h2
  clear hE1 hl hE h1 h2 hE2
  go_enter Try.func69, Try.ntmps69
  have R0_0 := Lib.hid hx
  clear hx
  have R1_0 := Lib.hid hv
  clear hv
  have R2_0 := Lib.hid hk
  clear hk
  go_wp2_with fail
  generalize hwn : (((w.alloc (.cells #[.slice A n ch] 22)).alloc (.cells #[.slice V nv cv] 22)).alloc (.cells #[.slice B m d, .int .i64 (M), .int .i64 (T)] 107)) = w1
  have hbn : Below w.heap.size w w1 := by rw [← hwn]; repeat' (first | exact Below.refl _ _ | refine below_drewN ?_ _ | refine Below.drew ?_ | refine Below.alloc ?_ (by first | omega | (simp; done) | (simp; omega) | (simp [World.setCell]; omega)) _ | refine Below.setCell ?_ (by first | omega | (simp; done) | (simp; omega)) _)
  have HB1 := Lib.hid (show Below w.heap.size w w1 from hbn)
  have K0_1 := Lib.hid (show Blk w1 (w.heap.size) 22 #[.slice A n ch] by rw [← hwn]; repeat' (first | exact Blk.at_ _ (by first | rfl | (simp; done) | (simp; omega)) _ _ | refine Blk.drewN ?_ _ | refine Blk.drew ?_ | refine Blk.alloc ?_ _ | refine Blk.far ?_ (by first | omega | (simp; done) | (simp; omega)) _ | assumption))
  have K1_1 := Lib.hid (show Blk w1 (w.heap.size + 1) 22 #[.slice V nv cv] by rw [← hwn]; repeat' (first | exact Blk.at_ _ (by first | rfl | (simp; done) | (simp; omega)) _ _ | refine Blk.drewN ?_ _ | refine Blk.drew ?_ | refine Blk.alloc ?_ _ | refine Blk.far ?_ (by first | omega | (simp; done) | (simp; omega)) _ | assumption))
  have K2_1 := Lib.hid (show Blk w1 (w.heap.size + 1 + 1) 107 #[.slice B m d, .int .i64 (M), .int .i64 (T)] by rw [← hwn]; repeat' (first | exact Blk.at_ _ (by first | rfl | (simp; done) | (simp; omega)) _ _ | refine Blk.drewN ?_ _ | refine Blk.drew ?_ | refine Blk.alloc ?_ _ | refine Blk.far ?_ (by first | omega | (simp; done) | (simp; omega)) _ | assumption))
  have R0_1 := Lib.hid ((R0_0.out.below hbn).more hbn.size)
  have R1_1 := Lib.hid ((R1_0.out.below hbn).more hbn.size)
  have R2_1 := Lib.hid ((R2_0.out.below hbn).more hbn.size)
  have HN1 := Lib.hid hbn
  have hz1 := hbn.size
  clear hwn hbn R0_0 R1_0 R2_0
  have l0_1 : w.heap.size < w1.heap.size := K0_1.out.lt
  have z0_0_1 : w1.cell? ⟨w.heap.size, 0, none⟩ = some (.slice A n ch) := K0_1.out.cell 0
  have l1_1 : w.heap.size + 1 < w1.heap.size := K1_1.out.lt
  have z1_0_1 : w1.cell? ⟨w.heap.size + 1, 0, none⟩ = some (.slice V nv cv) := K1_1.out.cell 0
  have l2_1 : w.heap.size + 1 + 1 < w1.heap.size := K2_1.out.lt
  have z2_0_1 : w1.cell? ⟨w.heap.size + 1 + 1, 0, none⟩ = some (.slice B m d) := K2_1.out.cell 0
  have z2_1_1 : w1.cell? ⟨w.heap.size + 1 + 1, 1, none⟩ = some (.int .i64 (M)) := K2_1.out.cell 1
  have z2_2_1 : w1.cell? ⟨w.heap.size + 1 + 1, 2, none⟩ = some (.int .i64 (T)) := K2_1.out.cell 2
  refine (both_is A n ch V nv cv h v 0 HE1.out _ R0_1.out (by omega) R1_1.out (by omega)).mono ?_
  rintro e w2 ⟨rfl, hb⟩
  have HB2 := Lib.hid (show Below w.heap.size w w2 from step_below hb (by repeat' (first | exact Below.refl _ _ | exact HB1.out | refine below_drewN ?_ _ | refine Below.drew ?_ | refine Below.alloc ?_ (by first | omega | (simp; done) | (simp; omega) | (simp [World.setCell]; omega)) _ | refine Below.setCell ?_ (by first | omega | (simp; done) | (simp; omega)) _ | assumption)))
  have K0_2 := Lib.hid (step_blk hb (show Blk _ (w.heap.size) 22 #[.slice A n ch] by repeat' (first | exact K0_1.out | exact K1_1.out | exact K2_1.out | exact Blk.at_ _ (by first | rfl | (simp; done) | (simp; omega)) _ _ | refine Blk.drewN ?_ _ | refine Blk.drew ?_ | refine Blk.alloc ?_ _ | refine Blk.far ?_ (by first | omega | (simp; done) | (simp; omega)) _ | assumption)))
  have K1_2 := Lib.hid (step_blk hb (show Blk _ (w.heap.size + 1) 22 #[.slice V nv cv] by repeat' (first | exact K0_1.out | exact K1_1.out | exact K2_1.out | exact Blk.at_ _ (by first | rfl | (simp; done) | (simp; omega)) _ _ | refine Blk.drewN ?_ _ | refine Blk.drew ?_ | refine Blk.alloc ?_ _ | refine Blk.far ?_ (by first | omega | (simp; done) | (simp; omega)) _ | assumption)))
  have K2_2 := Lib.hid (step_blk hb (show Blk _ (w.heap.size + 1 + 1) 107 #[.slice B m d, .int .i64 (M), .int .i64 (T)] by repeat' (first | exact K0_1.out | exact K1_1.out | exact K2_1.out | exact Blk.at_ _ (by first | rfl | (simp; done) | (simp; omega)) _ _ | refine Blk.drewN ?_ _ | refine Blk.drew ?_ | refine Blk.alloc ?_ _ | refine Blk.far ?_ (by first | omega | (simp; done) | (simp; omega)) _ | assumption)))
  have hL2 := Lib.hid (show Below w1.heap.size w1 _ from reads_mid hb (by repeat' (first | exact Below.refl _ _ | refine below_drewN ?_ _ | refine Below.drew ?_ | refine Below.alloc ?_ (by first | omega | (simp; done) | (simp; omega) | (simp [World.setCell]; omega)) _ | refine Below.setCell ?_ (by first | omega | (simp; done) | (simp; omega)) _)))
  have R0_2 := Lib.hid (reads_lay hb hL2.out R0_1.out)
  have R1_2 := Lib.hid (reads_lay hb hL2.out R1_1.out)
  have R2_2 := Lib.hid (readsT_lay hb hL2.out R2_1.out)
  clear hL2 R0_1 R1_1 R2_1
  have hz2 := hb.size
  try simp only [World.size_alloc, World.drewN, World.drew] at hz2
  clear hb K0_1 K1_1 K2_1 z0_0_1 l0_1 z1_0_1 l1_1 z2_0_1 z2_1_1 z2_2_1 l2_1
  have l0_2 : w.heap.size < w2.heap.size := K0_2.out.lt
  have z0_0_2 : w2.cell? ⟨w.heap.size, 0, none⟩ = some (.slice A n ch) := K0_2.out.cell 0
  have l1_2 : w.heap.size + 1 < w2.heap.size := K1_2.out.lt
  have z1_0_2 : w2.cell? ⟨w.heap.size + 1, 0, none⟩ = some (.slice V nv cv) := K1_2.out.cell 0
  have l2_2 : w.heap.size + 1 + 1 < w2.heap.size := K2_2.out.lt
  have z2_0_2 : w2.cell? ⟨w.heap.size + 1 + 1, 0, none⟩ = some (.slice B m d) := K2_2.out.cell 0
  have z2_1_2 : w2.cell? ⟨w.heap.size + 1 + 1, 1, none⟩ = some (.int .i64 (M)) := K2_2.out.cell 1
  have z2_2_2 : w2.cell? ⟨w.heap.size + 1 + 1, 2, none⟩ = some (.int .i64 (T)) := K2_2.out.cell 2
  go_wp2_with fail
  refine (checkkinds_is n m d B t M T E2 HE2.out (by omega) _ R2_2.out).mono ?_
  rintro e w3 ⟨rfl, hb⟩
  have HB3 := Lib.hid (show Below w.heap.size w w3 from step_below hb (by repeat' (first | exact Below.refl _ _ | exact HB2.out | refine below_drewN ?_ _ | refine Below.drew ?_ | refine Below.alloc ?_ (by first | omega | (simp; done) | (simp; omega) | (simp [World.setCell]; omega)) _ | refine Below.setCell ?_ (by first | omega | (simp; done) | (simp; omega)) _ | assumption)))
  have K0_3 := Lib.hid (step_blk hb (show Blk _ (w.heap.size) 22 #[.slice A n ch] by repeat' (first | exact K0_2.out | exact K1_2.out | exact K2_2.out | exact Blk.at_ _ (by first | rfl | (simp; done) | (simp; omega)) _ _ | refine Blk.drewN ?_ _ | refine Blk.drew ?_ | refine Blk.alloc ?_ _ | refine Blk.far ?_ (by first | omega | (simp; done) | (simp; omega)) _ | assumption)))
  have K1_3 := Lib.hid (step_blk hb (show Blk _ (w.heap.size + 1) 22 #[.slice V nv cv] by repeat' (first | exact K0_2.out | exact K1_2.out | exact K2_2.out | exact Blk.at_ _ (by first | rfl | (simp; done) | (simp; omega)) _ _ | refine Blk.drewN ?_ _ | refine Blk.drew ?_ | refine Blk.alloc ?_ _ | refine Blk.far ?_ (by first | omega | (simp; done) | (simp; omega)) _ | assumption)))
  have K2_3 := Lib.hid (step_blk hb (show Blk _ (w.heap.size + 1 + 1) 107 #[.slice B m d, .int .i64 (M), .int .i64 (T)] by repeat' (first | exact K0_2.out | exact K1_2.out | exact K2_2.out | exact Blk.at_ _ (by first | rfl | (simp; done) | (simp; omega)) _ _ | refine Blk.drewN ?_ _ | refine Blk.drew ?_ | refine Blk.alloc ?_ _ | refine Blk.far ?_ (by first | omega | (simp; done) | (simp; omega)) _ | assumption)))
  have hL3 := Lib.hid (show Below w2.heap.size w2 _ from reads_mid hb (by repeat' (first | exact Below.refl _ _ | refine below_drewN ?_ _ | refine Below.drew ?_ | refine Below.alloc ?_ (by first | omega | (simp; done) | (simp; omega) | (simp [World.setCell]; omega)) _ | refine Below.setCell ?_ (by first | omega | (simp; done) | (simp; omega)) _)))
  have R0_3 := Lib.hid (reads_lay hb hL3.out R0_2.out)
  have R1_3 := Lib.hid (reads_lay hb hL3.out R1_2.out)
  have R2_3 := Lib.hid (readsT_lay hb hL3.out R2_2.out)
  clear hL3 R0_2 R1_2 R2_2
  have hz3 := hb.size
  try simp only [World.size_alloc, World.drewN, World.drew] at hz3
  clear hb K0_2 K1_2 K2_2 z0_0_2 l0_2 z1_0_2 l1_2 z2_0_2 z2_1_2 z2_2_2 l2_2
  have l0_3 : w.heap.size < w3.heap.size := K0_3.out.lt
  have z0_0_3 : w3.cell? ⟨w.heap.size, 0, none⟩ = some (.slice A n ch) := K0_3.out.cell 0
  have l1_3 : w.heap.size + 1 < w3.heap.size := K1_3.out.lt
  have z1_0_3 : w3.cell? ⟨w.heap.size + 1, 0, none⟩ = some (.slice V nv cv) := K1_3.out.cell 0
  have l2_3 : w.heap.size + 1 + 1 < w3.heap.size := K2_3.out.lt
  have z2_0_3 : w3.cell? ⟨w.heap.size + 1 + 1, 0, none⟩ = some (.slice B m d) := K2_3.out.cell 0
  have z2_1_3 : w3.cell? ⟨w.heap.size + 1 + 1, 1, none⟩ = some (.int .i64 (M)) := K2_3.out.cell 1
  have z2_2_3 : w3.cell? ⟨w.heap.size + 1 + 1, 2, none⟩ = some (.int .i64 (T)) := K2_3.out.cell 2
  go_wp2
  go_ret2
  exact FewPost.bad H0.out (by rw [← HEE.out]; rfl) HB3.out
end Go.Proofs.Ytnepjgnnppfibaa

end

section
/- What a piece of a walk leaves as it was: all blocks but some; rows of cells given by a function. -/
namespace Go.Proofs.Ytnepjgnnppfibaa
open Go.RowKit

/-- All that was there, apart from the blocks of X, is as it was. -/
structure Tch (X : Nat → Prop) (w w' : World) : Prop where
  os : w'.os = w.os
  tape : w'.tape = w.tape
  output : w'.output = w.output
  size : w.heap.size ≤ w'.heap.size
  block : ∀ i, i < w.heap.size → ¬ X i → w'.heap[i]? = w.heap[i]?
section
variable {X Y : Nat → Prop} {w w' w'' : World}
theorem Tch.refl (X : Nat → Prop) (w : World) : Tch X w w := ⟨rfl, rfl, rfl, Nat.le_refl _, fun _ _ _ => rfl⟩
theorem Tch.trans (h : Tch X w w') (k : Tch X w' w'') : Tch X w w'' := ⟨k.os.trans h.os, k.tape.trans h.tape, k.output.trans h.output, Nat.le_trans h.size k.size, fun i hi hx => (k.block i (Nat.lt_of_lt_of_le hi h.size) hx).trans (h.block i hi hx)⟩
theorem Tch.mono (h : Tch X w w') (hs : ∀ i, i < w.heap.size → X i → Y i) : Tch Y w w' := ⟨h.os, h.tape, h.output, h.size, fun i hi hy => h.block i hi fun hx => hy (hs i hi hx)⟩
theorem Tch.of_below (h : Below w.heap.size w w') : Tch X w w' := ⟨h.os, h.tape, h.output, h.size, fun i hi _ => h.block i hi⟩
theorem Tch.call (h : Tch X w w') (k : Below w'.heap.size w' w'') : Tch X w w'' := h.trans (Tch.of_below k)
theorem Tch.alloc (h : Tch X w w') (o : Obj) : Tch X w (w'.alloc o) := h.call ((Below.refl _ _).alloc (Nat.le_refl _) _)
theorem Tch.drewN (h : Tch X w w') (n : Nat) : Tch X w (w'.drewN n) := h.call (below_drewN (Below.refl _ _) n)
theorem Tch.drew (h : Tch X w w') : Tch X w w'.drew := ⟨h.os, h.tape, h.output, h.size, h.block⟩
theorem Tch.setCell (h : Tch X w w') {p : Addr} (hp : X p.block ∨ w.heap.size ≤ p.block) (u : Value) : Tch X w (w'.setCell p u) :=
  ⟨h.os, h.tape, h.output, by simpa [World.setCell] using h.size, fun i hi hx => (Below.heap_setCell w' p u i (by rintro rfl; rcases hp with hp | hp; exact hx hp; omega)).trans (h.block i hi hx)⟩
theorem Tch.blk (h : Tch X w w') {q : Nat} {t : TypeId} {cs : Array Value} (hq : Blk w q t cs) (hx : ¬ X q) : Blk w' q t cs := (h.block q hq.lt hx).trans hq
theorem Tch.below {B : Nat} (h : Tch X w w') (hx : ∀ q, X q → B ≤ q) (hB : B ≤ w.heap.size) : Below B w w' := ⟨h.os, h.tape, h.output, h.size, fun i hi => h.block i (by omega) fun hxi => by have := hx i hxi; omega⟩
theorem Tch.own (h : Tch X w w') {base n size : Nat} {e : TypeId} {v : Value} {xs : List Value} (ho : w.ownsRow base e size v n xs) (hx : ∀ q, v.ownBlock = some q → ¬ X q) : w'.ownsRow base e size v n xs :=
  own_same ho fun q hq => h.block q (own_lt ho hq).2 (hx q hq)
theorem Tch.grown (h : Tch X w w') {row : Option Nat} (hg : w'.grownBy w'' row) (hx : ∀ q, row = some q → X q ∨ w.heap.size ≤ q) : Tch X w w'' :=
  ⟨hg.os.trans h.os, hg.tape.trans h.tape, hg.output.trans h.output, Nat.le_trans h.size hg.size, fun i hi hxi => (hg.block i (Nat.lt_of_lt_of_le hi h.size) (fun e => by rcases hx i e.symm with k | k; exact hxi k; omega)).trans (h.block i hi hxi)⟩
end

/-- A block of n cells, told by a function. -/
def RB (w : World) (g : Nat) (t : TypeId) (n : Nat) (f : Nat → Value) : Prop := Blk w g t ((List.range n).map f).toArray
section
variable {w w' : World} {g n : Nat} {t : TypeId} {f f' : Nat → Value}
theorem RB.lt (h : RB w g t n f) : g < w.heap.size := Blk.lt h
theorem RB.cell (h : RB w g t n f) {k : Nat} (hk : k < n) : w.cell? ⟨g, k, none⟩ = some (f k) := by
  rw [Blk.cell h k]
  simp [hk]
theorem RB.frozen (h : RB w g t n f) (k : Nat) : w.frozen? ⟨g, k, none⟩ = false := Blk.frozen h k
theorem RB.congr (h : RB w g t n f) (he : ∀ k, k < n → f k = f' k) : RB w g t n f' := by
  have e : (List.range n).map f = (List.range n).map f' := List.map_congr_left fun k hk => he k (List.mem_range.1 hk)
  unfold RB at h ⊢
  rwa [e] at h
theorem RB.set_ (h : RB w g t n f) (k : Nat) (u : Value) : RB (w.setCell ⟨g, k, none⟩ u) g t n (fun j => if j = k then u else f j) := by
  have h' := Blk.set_ h k u
  unfold RB
  have e : ((List.range n).map f).toArray.setIfInBounds k u = ((List.range n).map (fun j => if j = k then u else f j)).toArray := by
    rw [List.setIfInBounds_toArray]
    congr 1
    apply List.ext_getElem?
    intro i
    rw [List.getElem?_set, List.getElem?_map]
    by_cases hin : i < n
    · by_cases hik : k = i
      · subst hik; simp [hin]
      · rw [if_neg hik]
        have : ¬ i = k := fun e => hik e.symm
        simp [hin, this]
    · simp only [List.getElem?_map, List.length_map, List.length_range]
      have : (List.range n)[i]? = none := by rw [List.getElem?_eq_none]; simp; omega
      rw [this]
      by_cases hik : k = i
      · subst hik; simp [hin]
      · rw [if_neg hik]; rfl
  rwa [e] at h'
theorem RB.reads (h : RB w g t n f) : Reads w w.heap.size 1 (some ⟨g, 0, none⟩) n ((List.range n).map f) := Blk.reads h (by simp)
end
theorem Tch.rb {X : Nat → Prop} {w w' : World} (h : Tch X w w') {g n : Nat} {t : TypeId} {f : Nat → Value} (hq : RB w g t n f) (hx : ¬ X g) : RB w' g t n f := Tch.blk h hq hx
theorem RB.lay {w w' : World} {g n : Nat} {t : TypeId} {f : Nat → Value} (h : RB w g t n f) (hb : Below w.heap.size w w') : RB w' g t n f := Blk.below h hb h.lt
theorem RB.alloc {w : World} {g n : Nat} {t : TypeId} {f : Nat → Value} (h : RB w g t n f) (o : Obj) : RB (w.alloc o) g t n f := Blk.alloc h o
theorem Tch.cell {X : Nat → Prop} {w w' : World} (h : Tch X w w') {p : Addr} (hp : p.block < w.heap.size) (hx : ¬ X p.block) : w'.cell? p = w.cell? p := World.cell?_of_block (h.block _ hp hx)
theorem made_one (z : Value) (n : Nat) : madeCells #[z] n = ((List.range n).map fun _ => z).toArray := by
  have h := toList_madeCells_one z n
  apply Array.ext'
  rw [h]
  simp [List.map_const']

end Go.Proofs.Ytnepjgnnppfibaa

end
