import Derived.Test.YtdidcpealabaiaaQ17
import Derived.Test.YtdidcpealabaiaaQ19
import Derived.Test.YtdidcpealabaiaaQ12
import Derived.Test.YtdidcpealabaiaaQ16
import Derived.Test.YtdidcpealabaiaaQ9

section
/- The examples with which each statement begins are so: the walk. -/
namespace Go.Proofs.Ytdidcpealabaiaa
open Go Go.RowKit

set_option maxRecDepth 100000 in
set_option maxHeartbeats 2000000 in
theorem awakept_any (w : World) : Calls Try.prog 18 #[] w fun e w' => e = .returned (.bool true) ∧ Below w.heap.size w w' := by
  go_enter Try.func18, Try.ntmps18
  go_wp2_with fail
  refine (awake_fit (w.heap.size) (w.heap.size + 1) (w.heap.size + 1 + 1) _ _ _ (stars3_at (t := 3) (u := 112) (by repeat' (first | assumption | exact Blk.at_ _ (by first | rfl | (simp; done) | (simp; omega)) _ _ | refine Blk.drewN ?_ _ | refine Blk.drew ?_ | refine Blk.alloc ?_ _ | refine Blk.far ?_ (by first | omega | (simp; done) | (simp; omega)) _)) (by repeat' (first | assumption | exact Blk.at_ _ (by first | rfl | (simp; done) | (simp; omega)) _ _ | refine Blk.drewN ?_ _ | refine Blk.drew ?_ | refine Blk.alloc ?_ _ | refine Blk.far ?_ (by first | omega | (simp; done) | (simp; omega)) _)) (by repeat' (first | assumption | exact Blk.at_ _ (by first | rfl | (simp; done) | (simp; omega)) _ _ | refine Blk.drewN ?_ _ | refine Blk.drew ?_ | refine Blk.alloc ?_ _ | refine Blk.far ?_ (by first | omega | (simp; done) | (simp; omega)) _)) (by repeat' (first | assumption | exact Blk.at_ _ (by first | rfl | (simp; done) | (simp; omega)) _ _ | refine Blk.drewN ?_ _ | refine Blk.drew ?_ | refine Blk.alloc ?_ _ | refine Blk.far ?_ (by first | omega | (simp; done) | (simp; omega)) _)))).mono ?_
  rintro e w1 ⟨A, c, rfl, hb, hr⟩
  have HB1 := Lib.hid (show Below w.heap.size w w1 from step_below hb (by repeat' (first | exact Below.refl _ _ | exact HB0.out | refine below_drewN ?_ _ | refine Below.drew ?_ | refine Below.alloc ?_ (by first | omega | (simp; done) | (simp; omega) | (simp [World.setCell]; omega)) _ | refine Below.setCell ?_ (by first | omega | (simp; done) | (simp; omega)) _ | assumption)))
  have hz1 := hb.size
  try simp only [World.size_alloc, World.drewN, World.drew] at hz1
  clear hb
  have R0_1 := Lib.hid hr
  clear hr
  go_wp2_with fail
  refine (fork_any _).mono ?_
  rintro e w2 ⟨a, b, rfl, hb, hr1, hr2⟩
  have HB2 := Lib.hid (show Below w.heap.size w w2 from step_below hb (by repeat' (first | exact Below.refl _ _ | exact HB1.out | refine below_drewN ?_ _ | refine Below.drew ?_ | refine Below.alloc ?_ (by first | omega | (simp; done) | (simp; omega) | (simp [World.setCell]; omega)) _ | refine Below.setCell ?_ (by first | omega | (simp; done) | (simp; omega)) _ | assumption)))
  have K0_2 := Lib.hid (step_blk hb (show Blk _ (w1.heap.size) 45 #[.slice A 2 c, .int .i64 (6)] by repeat' (first | exact Blk.at_ _ (by first | rfl | (simp; done) | (simp; omega)) _ _ | refine Blk.drewN ?_ _ | refine Blk.drew ?_ | refine Blk.alloc ?_ _ | refine Blk.far ?_ (by first | omega | (simp; done) | (simp; omega)) _ | assumption)))
  have hL2 := Lib.hid (show Below w1.heap.size w1 _ from reads_mid hb (by repeat' (first | exact Below.refl _ _ | refine below_drewN ?_ _ | refine Below.drew ?_ | refine Below.alloc ?_ (by first | omega | (simp; done) | (simp; omega) | (simp [World.setCell]; omega)) _ | refine Below.setCell ?_ (by first | omega | (simp; done) | (simp; omega)) _)))
  have R0_2 := Lib.hid (reads_lay hb hL2.out R0_1.out)
  clear hL2 R0_1
  have hz2 := hb.size
  try simp only [World.size_alloc, World.drewN, World.drew] at hz2
  clear hb
  have l0_2 : w1.heap.size < w2.heap.size := K0_2.out.lt
  have z0_0_2 : w2.cell? ⟨w1.heap.size, 0, none⟩ = some (.slice A 2 c) := K0_2.out.cell 0
  have z0_1_2 : w2.cell? ⟨w1.heap.size, 1, none⟩ = some (.int .i64 (6)) := K0_2.out.cell 1
  have R1_2 := Lib.hid hr1
  clear hr1
  have R2_2 := Lib.hid hr2
  clear hr2
  go_wp2_with fail
  refine (night_any _).mono ?_
  rintro e w3 ⟨g, rfl, hb, -, hr3⟩
  have HB3 := Lib.hid (show Below w.heap.size w w3 from step_below hb (by repeat' (first | exact Below.refl _ _ | exact HB2.out | refine below_drewN ?_ _ | refine Below.drew ?_ | refine Below.alloc ?_ (by first | omega | (simp; done) | (simp; omega) | (simp [World.setCell]; omega)) _ | refine Below.setCell ?_ (by first | omega | (simp; done) | (simp; omega)) _ | assumption)))
  have K0_3 := Lib.hid (step_blk hb (show Blk _ (w1.heap.size) 45 #[.slice A 2 c, .int .i64 (6)] by repeat' (first | exact K0_2.out | exact Blk.at_ _ (by first | rfl | (simp; done) | (simp; omega)) _ _ | refine Blk.drewN ?_ _ | refine Blk.drew ?_ | refine Blk.alloc ?_ _ | refine Blk.far ?_ (by first | omega | (simp; done) | (simp; omega)) _ | assumption)))
  have hL3 := Lib.hid (show Below w2.heap.size w2 _ from reads_mid hb (by repeat' (first | exact Below.refl _ _ | refine below_drewN ?_ _ | refine Below.drew ?_ | refine Below.alloc ?_ (by first | omega | (simp; done) | (simp; omega) | (simp [World.setCell]; omega)) _ | refine Below.setCell ?_ (by first | omega | (simp; done) | (simp; omega)) _)))
  have R0_3 := Lib.hid (reads_lay hb hL3.out R0_2.out)
  have R1_3 := Lib.hid (reads_lay hb hL3.out R1_2.out)
  have R2_3 := Lib.hid (reads_lay hb hL3.out R2_2.out)
  clear hL3 R0_2 R1_2 R2_2
  have hz3 := hb.size
  try simp only [World.size_alloc, World.drewN, World.drew] at hz3
  clear hb K0_2 z0_0_2 z0_1_2 l0_2
  have l0_3 : w1.heap.size < w3.heap.size := K0_3.out.lt
  have z0_0_3 : w3.cell? ⟨w1.heap.size, 0, none⟩ = some (.slice A 2 c) := K0_3.out.cell 0
  have z0_1_3 : w3.cell? ⟨w1.heap.size, 1, none⟩ = some (.int .i64 (6)) := K0_3.out.cell 1
  have R3_3 := Lib.hid hr3
  clear hr3
  go_wp2_with fail
  refine (pchoice_is (forkM a b) 0 0 nightL (some ⟨g, 0, none⟩) 3 3 (some ⟨w3.heap.size, 0, none⟩) 3 3 [0, -1, 0] 10001892000 0 (awake_choice a b) _ ⟨(R1_3.out.alloc (Nat.le_refl _) _).more (by simp), (R2_3.out.alloc (Nat.le_refl _) _).more (by simp), (by show 1 ≤ _; omega), (by show 1 ≤ _; omega)⟩ ((R3_3.out.alloc (Nat.le_refl _) _).more (by simp)) ⟨Nat.le_refl 3, by omega⟩ night_fits (Blk.reads (Blk.at_ _ rfl _ _) (by rfl)) ⟨Nat.le_refl 3, by omega⟩ (awake_tour a b)).mono ?_
  rintro e w4 ⟨rfl, hb⟩
  have HB4 := Lib.hid (show Below w.heap.size w w4 from step_below hb (by repeat' (first | exact Below.refl _ _ | exact HB3.out | refine below_drewN ?_ _ | refine Below.drew ?_ | refine Below.alloc ?_ (by first | omega | (simp; done) | (simp; omega) | (simp [World.setCell]; omega)) _ | refine Below.setCell ?_ (by first | omega | (simp; done) | (simp; omega)) _ | assumption)))
  have K0_4 := Lib.hid (step_blk hb (show Blk _ (w1.heap.size) 45 #[.slice A 2 c, .int .i64 (6)] by repeat' (first | exact K0_3.out | exact Blk.at_ _ (by first | rfl | (simp; done) | (simp; omega)) _ _ | refine Blk.drewN ?_ _ | refine Blk.drew ?_ | refine Blk.alloc ?_ _ | refine Blk.far ?_ (by first | omega | (simp; done) | (simp; omega)) _ | assumption)))
  have hL4 := Lib.hid (show Below w3.heap.size w3 _ from reads_mid hb (by repeat' (first | exact Below.refl _ _ | refine below_drewN ?_ _ | refine Below.drew ?_ | refine Below.alloc ?_ (by first | omega | (simp; done) | (simp; omega) | (simp [World.setCell]; omega)) _ | refine Below.setCell ?_ (by first | omega | (simp; done) | (simp; omega)) _)))
  have R0_4 := Lib.hid (reads_lay hb hL4.out R0_3.out)
  have R1_4 := Lib.hid (reads_lay hb hL4.out R1_3.out)
  have R2_4 := Lib.hid (reads_lay hb hL4.out R2_3.out)
  have R3_4 := Lib.hid (reads_lay hb hL4.out R3_3.out)
  clear hL4 R0_3 R1_3 R2_3 R3_3
  have hz4 := hb.size
  try simp only [World.size_alloc, World.drewN, World.drew] at hz4
  clear hb K0_3 z0_0_3 z0_1_3 l0_3
  have l0_4 : w1.heap.size < w4.heap.size := K0_4.out.lt
  have z0_0_4 : w4.cell? ⟨w1.heap.size, 0, none⟩ = some (.slice A 2 c) := K0_4.out.cell 0
  have z0_1_4 : w4.cell? ⟨w1.heap.size, 1, none⟩ = some (.int .i64 (6)) := K0_4.out.cell 1
  go_wp2_with fail
  refine (pTable_ok (some ⟨w4.heap.size, 0, none⟩) 2 2 [(0, 10), (100, 0)] 35 6 awake_taberr (by kernel_rfl) awake_tab _ (Blk.reads (Blk.at_ _ rfl _ _) (by rfl)) (by omega)).mono ?_
  rintro e w5 ⟨rfl, hb⟩
  have HB5 := Lib.hid (show Below w.heap.size w w5 from step_below hb (by repeat' (first | exact Below.refl _ _ | exact HB4.out | refine below_drewN ?_ _ | refine Below.drew ?_ | refine Below.alloc ?_ (by first | omega | (simp; done) | (simp; omega) | (simp [World.setCell]; omega)) _ | refine Below.setCell ?_ (by first | omega | (simp; done) | (simp; omega)) _ | assumption)))
  have K0_5 := Lib.hid (step_blk hb (show Blk _ (w1.heap.size) 45 #[.slice A 2 c, .int .i64 (6)] by repeat' (first | exact K0_4.out | exact Blk.at_ _ (by first | rfl | (simp; done) | (simp; omega)) _ _ | refine Blk.drewN ?_ _ | refine Blk.drew ?_ | refine Blk.alloc ?_ _ | refine Blk.far ?_ (by first | omega | (simp; done) | (simp; omega)) _ | assumption)))
  have hL5 := Lib.hid (show Below w4.heap.size w4 _ from reads_mid hb (by repeat' (first | exact Below.refl _ _ | refine below_drewN ?_ _ | refine Below.drew ?_ | refine Below.alloc ?_ (by first | omega | (simp; done) | (simp; omega) | (simp [World.setCell]; omega)) _ | refine Below.setCell ?_ (by first | omega | (simp; done) | (simp; omega)) _)))
  have R0_5 := Lib.hid (reads_lay hb hL5.out R0_4.out)
  have R1_5 := Lib.hid (reads_lay hb hL5.out R1_4.out)
  have R2_5 := Lib.hid (reads_lay hb hL5.out R2_4.out)
  have R3_5 := Lib.hid (reads_lay hb hL5.out R3_4.out)
  clear hL5 R0_4 R1_4 R2_4 R3_4
  have hz5 := hb.size
  try simp only [World.size_alloc, World.drewN, World.drew] at hz5
  clear hb K0_4 z0_0_4 z0_1_4 l0_4
  have l0_5 : w1.heap.size < w5.heap.size := K0_5.out.lt
  have z0_0_5 : w5.cell? ⟨w1.heap.size, 0, none⟩ = some (.slice A 2 c) := K0_5.out.cell 0
  have z0_1_5 : w5.cell? ⟨w1.heap.size, 1, none⟩ = some (.int .i64 (6)) := K0_5.out.cell 1
  go_wp2_with fail
  refine (ints_eqd A (some ⟨w5.heap.size, 0, none⟩) c 2 2 2 [5, 9] [5, 9] true (by decide) _ _ _ (R0_5.out.alloc (Nat.le_refl _) _) (Blk.reads (Blk.at_ _ rfl _ _) (by rfl)) (by omega) (by omega)).mono ?_
  rintro e w' ⟨rfl, q, rfl⟩
  go_wp2
  go_ret
  exact ⟨rfl, by repeat' (first | exact Below.refl _ _ | exact HB5.out | refine below_drewN ?_ _ | refine Below.drew ?_ | refine Below.alloc ?_ (by first | omega | (simp; done) | (simp; omega) | (simp [World.setCell]; omega)) _ | refine Below.setCell ?_ (by first | omega | (simp; done) | (simp; omega)) _ | assumption)⟩
end Go.Proofs.Ytdidcpealabaiaa

end

section
/- The least number of a list; the bound that potentials prove: plain law, and the contracts of the least number on both sides. -/
namespace Go.Proofs.Ytdidcpealabaiaa
open Go Go.RowKit

def mn (a b : Int) : Int := if b < a then b else a
theorem mn_le (a b : Int) : mn a b ≤ a ∧ mn a b ≤ b := by unfold mn; split <;> omega
def minF : List Int → Int
  | [] => 0
  | x :: r => r.foldl mn x
theorem minF_snoc {l : List Int} (h : l ≠ []) (x : Int) : minF (l ++ [x]) = mn (minF l) x := by
  match l, h with
  | a :: r, _ => simp [minF, List.foldl_append]
theorem fold_le : ∀ (r : List Int) (a : Int), r.foldl mn a ≤ a ∧ ∀ x ∈ r, r.foldl mn a ≤ x
  | [], a => ⟨Int.le_refl a, fun _ h => absurd h (by simp)⟩
  | y :: r, a => by
    obtain ⟨h1, h2⟩ := fold_le r (mn a y)
    have h3 := mn_le a y
    refine ⟨by show r.foldl mn (mn a y) ≤ a; omega, fun x hx => ?_⟩
    show r.foldl mn (mn a y) ≤ x
    rcases List.mem_cons.1 hx with rfl | hx
    · omega
    · exact h2 x hx
theorem minF_le {l : List Int} {x : Int} (h : x ∈ l) : minF l ≤ x := by
  match l, h with
  | a :: r, h =>
    obtain ⟨h1, h2⟩ := fold_le r a
    rcases List.mem_cons.1 h with rfl | h
    · exact h1
    · exact h2 x h

set_option maxRecDepth 100000 in
theorem pmin_is (A : Option Addr) (n c N : Nat) (l : List Int) (v : Int) (hv : minF l = v) (hn0 : 0 < n) (w : World) (hx : Reads w N 1 A n (l.map (.int .i64))) (hn : n ≤ 9223372036854775807) :
    Calls Try.prog 106 #[.slice A n c] w fun e w' => e = .returned (.int .i64 v) ∧ w = w' := by
  have hl := hx.ilen
  obtain ⟨zb, zo, z0, rfl, hzb, hz0, c0⟩ := hx.int_ hn0
  simp only [Nat.add_zero] at c0
  have HX := Lib.hid hx
  have HV := Lib.hid hv
  have HL := Lib.hid hl
  have h1 : minF (l.take 1) = z0 := by
    match l, hz0 with
    | a :: r, hz0 => obtain rfl : a = z0 := by simpa using hz0
                     rfl
  have H1 := Lib.hid h1
  have hn1 : ¬ (n : Int) < 1 := by omega
  clear hx hv hl hz0 h1
  go_enter Try.func106, Try.ntmps106
  go_wp2
  go_loop [3, 4] (fun m i => ∃ q : Nat, 1 ≤ q ∧ q ≤ n ∧ m = .int .i64 (minF (l.take q)) ∧ i = .int .i64 q) (fun _ i => n - (intOf i).toNat)
  case atStart => exact ⟨1, by omega, by omega, by rw [H1.out], rfl⟩
  case round =>
    obtain ⟨q, hq1, hq, rfl, rfl⟩ := hrel
    by_cases hlt : q < n
    · obtain ⟨xb, xo, x, hA, -, hxq, c1⟩ := HX.out.int_ hlt
      cases hA
      have hs : minF (l.take (q + 1)) = mn (minF (l.take q)) x := by
        rw [List.take_add_one, hxq]
        exact minF_snoc (fun e => by have h1 := congrArg List.length e; have h2 := HL.out; rw [List.length_take, h2, List.length_nil] at h1; omega) x
      have HS := Lib.hid hs
      have hqq : (q : Int) < (n : Int) := by omega
      clear hs hxq
      go_wp2
      go_round
      case rel => exact ⟨q + 1, by omega, by omega, by rw [HS.out]; rfl, by go_num⟩
      case measure => simp [intOf]; omega
    · obtain rfl : n = q := by omega
      rw [List.take_of_length_le (by rw [HL.out]; exact Nat.le_refl _), HV.out]
      go_wp2
      go_ret
      exact ⟨rfl, rfl⟩
/-- The potentials before, and the positions from which, target i is reached. -/
def befL (ps : List (List Int)) (i : Nat) : List Int := if i = 0 then [0] else (ps[i - 1]?).getD []
def froL (m : Mnt) (day pos : Int) (l : List Tgt) (i : Nat) : List Int := if i = 0 then [pos] else ((l[i - 1]?).map (posV m day)).getD []
theorem befL_succ {ps : List (List Int)} {i : Nat} {p : List Int} (h : ps[i]? = some p) : befL ps (i + 1) = p := by unfold befL; rw [if_neg (by omega), Nat.add_sub_cancel, h]; rfl
theorem froL_succ {m : Mnt} {day pos : Int} {l : List Tgt} {i : Nat} {t : Tgt} (h : l[i]? = some t) : froL m day pos l (i + 1) = posV m day t := by unfold froL; rw [if_neg (by omega), Nat.add_sub_cancel, h]; rfl
def ShapeOk (m : Mnt) (day : Int) (l : List Tgt) (ps : List (List Int)) : Prop := ps.length = l.length ∧ ∀ (i : Nat) (p : List Int) (t : Tgt), ps[i]? = some p → l[i]? = some t → p.length = (turnsV m day t).length
def RangeOk (ps : List (List Int)) : Prop := ∀ p ∈ ps, smallL 1000000000000 p = true
def ProofAt (m : Mnt) (day pos : Int) (l : List Tgt) (ps : List (List Int)) (i : Nat) : Prop :=
  ∀ (p : List Int) (t : Tgt), ps[i]? = some p → l[i]? = some t → ∀ (k : Nat) (z to : Int), p[k]? = some z → (posV m day t)[k]? = some to → ∀ (n : Nat) (b a : Int), (befL ps i)[n]? = some b → (froL m day pos l i)[n]? = some a → z ≤ b + costF a to
def ProofOk (m : Mnt) (day pos : Int) (l : List Tgt) (ps : List (List Int)) : Prop := ∀ i, ProofAt m day pos l ps i
/-- What the check of potentials answers. -/
def LeastRes (m : Mnt) (day pos : Int) (l : List Tgt) (ps : List (List Int)) (C E : Int) : Prop :=
  (¬ ShapeOk m day l ps ∧ C = 0 ∧ E = 10) ∨ (ShapeOk m day l ps ∧ ¬ RangeOk ps ∧ C = 0 ∧ E = 2) ∨ (ShapeOk m day l ps ∧ RangeOk ps ∧ ¬ ProofOk m day pos l ps ∧ C = 0 ∧ E = 22) ∨ (ShapeOk m day l ps ∧ RangeOk ps ∧ ProofOk m day pos l ps ∧ C = minF (befL ps l.length) ∧ E = 0)
section
variable {m : Mnt} {day pos : Int} {l : List Tgt} {ps : List (List Int)} {C E : Int}
theorem LeastRes.range (h : LeastRes m day pos l ps C E) (h1 : ShapeOk m day l ps) (h2 : ¬ RangeOk ps) : C = 0 ∧ E = 2 := by
  rcases h with h | h | h | h
  · exact absurd h1 h.1
  · exact h.2.2
  · exact absurd h.2.1 h2
  · exact absurd h.2.1 h2
theorem LeastRes.ok (h : LeastRes m day pos l ps C E) (h1 : ShapeOk m day l ps) (h2 : RangeOk ps) (h3 : ProofOk m day pos l ps) : C = minF (befL ps l.length) ∧ E = 0 := by
  rcases h with h | h | h | h
  · exact absurd h1 h.1
  · exact absurd h2 h.2.1
  · exact absurd h3 h.2.2.1
  · exact h.2.2.2
theorem LeastRes.zero (h : LeastRes m day pos l ps C 0) : ShapeOk m day l ps ∧ ProofOk m day pos l ps ∧ C = minF (befL ps l.length) := by
  rcases h with h | h | h | h
  · exact absurd h.2.2 (by decide)
  · exact absurd h.2.2.2 (by decide)
  · exact absurd h.2.2.2.2 (by decide)
  · exact ⟨h.1, h.2.2.1, h.2.2.2.1⟩
theorem bound_upto {ks : List Int} (hs : ShapeOk m day l ps) (hp : ProofOk m day pos l ps) (hk : pathErr m day l ks = 0) : ∀ i, i ≤ l.length → ∃ (n : Nat) (b : Int), (befL ps i)[n]? = some b ∧ (froL m day pos l i)[n]? = some (lastI pos ((pathL m day l ks).take i)) ∧ b ≤ costL pos ((pathL m day l ks).take i)
  | 0, _ => ⟨0, 0, rfl, rfl, by simp [costL]⟩
  | i + 1, hi => by
    obtain ⟨n, b, h1, h2, h3⟩ := bound_upto hs hp hk i (by omega)
    obtain ⟨hkl, hpo⟩ := pathErr_ok hk
    have ht : l[i]? = some l[i] := List.getElem?_eq_getElem (by omega)
    have hki : ks[i]? = some (ks[i]'(by omega)) := List.getElem?_eq_getElem (by omega)
    have hok := path_at hpo ht hki
    unfold turnOk at hok
    obtain ⟨j, hj⟩ := List.getElem?_of_mem (of_decide_eq_true hok)
    have hpi : ps[i]? = some (ps[i]'(by have := hs.1; omega)) := List.getElem?_eq_getElem (by have := hs.1; omega)
    have hlen := hs.2 i _ _ hpi ht
    have hjl := (List.getElem?_eq_some_iff.1 hj).1
    have hz : (ps[i]'(by have := hs.1; omega))[j]? = some ((ps[i]'(by have := hs.1; omega))[j]'(by omega)) := List.getElem?_eq_getElem (by omega)
    have hto : (posV m day l[i])[j]? = some (posK m day l[i] (ks[i]'(by omega))) := posL_get hj
    have hle := hp i _ _ hpi ht j _ _ hz hto n b _ h1 h2
    refine ⟨j, _, by rw [befL_succ hpi]; exact hz, ?_, ?_⟩
    · rw [froL_succ ht, pathL_snoc ht hki, lastI_snoc]; exact hto
    · rw [pathL_snoc ht hki, costL_snoc]; omega
theorem bound_le {ks : List Int} (hs : ShapeOk m day l ps) (hp : ProofOk m day pos l ps) (hk : pathErr m day l ks = 0) : minF (befL ps l.length) ≤ costL pos (pathL m day l ks) := by
  obtain ⟨n, b, h1, -, h3⟩ := bound_upto hs hp hk l.length (Nat.le_refl _)
  rw [List.take_of_length_le (by rw [pathL_len (pathErr_ok hk).1]; exact Nat.le_refl _)] at h3
  have := minF_le (List.mem_of_getElem? h1)
  omega
end
end Go.Proofs.Ytdidcpealabaiaa

end

section
/- Contract of the package's check of potentials. -/
namespace Go.Proofs.Ytdidcpealabaiaa
open Go Go.RowKit

theorem posV_in {m : Mnt} {day : Int} {t : Tgt} {z : Int} (h : z ∈ posV m day t) : m.ls ≤ z ∧ z ≤ m.ms := by
  unfold posV posL at h
  obtain ⟨k, hk, rfl⟩ := List.mem_map.1 h
  obtain ⟨h1, h2, -⟩ := turn_range hk
  exact ⟨h1, h2⟩
/-- What is known of two lists that are made. -/
def PfI (a b : List Int) (ci ki : Nat) (i : Nat) (x : Pick2) (w : World) : Prop := (i = ci → Reads w w.heap.size 1 x.1.1 1 (a.map (.int .i64))) ∧ (i = ki → Reads w w.heap.size 1 x.1.1 1 (b.map (.int .i64)))
theorem PfI.stb {a b : List Int} {ci ki : Nat} : Stb (PfI a b ci ki) := fun _ _ _ _ hb h => ⟨fun e => ((h.1 e).below hb).more hb.size, fun e => ((h.2 e).below hb).more hb.size⟩
end Go.Proofs.Ytdidcpealabaiaa

end

section
/- Contracts of the reference's functions on choices: whether a list has a number, positions, costs, the check of a choice. -/
namespace Go.Proofs.Ytdidcpealabaiaa
open Go Go.RowKit

theorem tour_each {m : Mnt} {l : List Tgt} {day pos : Int} (h : (tourF m l day pos).2 = 0) {i : Nat} {t : Tgt} (ht : l[i]? = some t) : tgtErr t = 0 ∧ (turnsF m t day).2 = 0 := by
  have hs := (tour_right h).2.2.2.2 i t ht
  unfold stepErr at hs
  by_cases h0 : nextErr (l.take i) t ≠ 0
  · rw [if_pos h0] at hs; exact absurd hs h0
  · rw [if_neg h0] at hs
    exact ⟨(next_zero (Decidable.not_not.1 h0)).1, hs⟩
/-- What is known of a right tour, target by target. -/
theorem turn_ok_iff {m : Mnt} {day : Int} {t : Tgt} {k X Y : Int} {L : List Int} {F : Int} (hA : appF m t day = (X, Y)) (hT : turnsAt m X Y = (L, F)) : turnOk m day t k = decide (k ∈ L) ∧ posK m day t k = X + k * 1296000 := by
  unfold turnOk turnsV turnsF posK
  rw [hA]
  simp [hT]
end Go.Proofs.Ytdidcpealabaiaa

end

section
/- Contract of the reference's check of potentials. -/
namespace Go.Proofs.Ytdidcpealabaiaa
open Go Go.RowKit

def TgtCells (xb xo : Nat) (t : Tgt) (w : World) : Prop := w.cell? ⟨xb, xo, none⟩ = some (.string t.name) ∧ w.cell? ⟨xb, xo + 1, none⟩ = some (.int .i64 t.az) ∧ w.cell? ⟨xb, xo + 2, none⟩ = some (.int .i64 t.ht) ∧ w.cell? ⟨xb, xo + 3, none⟩ = some (.int .i64 t.fr) ∧ w.cell? ⟨xb, xo + 4, none⟩ = some (.int .i64 t.to) ∧ w.cell? ⟨xb, xo + 5, none⟩ = some (.int .i64 t.dw)

end Go.Proofs.Ytdidcpealabaiaa

end

section
/- The choice with the least cost: plain law (least costs up to each turn, the way back, the potentials that prove it). -/
namespace Go.Proofs.Ytdidcpealabaiaa
open Go Go.RowKit

/-- The cost of reaching `to` over the n-th place before. -/
def valC (B F : List Int) (to : Int) (n : Nat) : Int := (B[n]?).getD 0 + costF ((F[n]?).getD 0) to
/-- The best place among the first h. -/
def bestC (B F : List Int) (to : Int) : Nat → Nat
  | 0 => 0
  | h + 1 => if valC B F to h < valC B F to (bestC B F to h) then h else bestC B F to h
theorem bestC_lt (B F : List Int) (to : Int) : ∀ {h : Nat}, 0 < h → bestC B F to h < h
  | 0, h => absurd h (by omega)
  | h + 1, _ => by
    unfold bestC
    split
    · omega
    · by_cases h0 : 0 < h
      · have := bestC_lt B F to h0; omega
      · obtain rfl : h = 0 := by omega
        show (0 : Nat) < 0 + 1
        omega
theorem bestC_le (B F : List Int) (to : Int) : ∀ {h n : Nat}, n < h → valC B F to (bestC B F to h) ≤ valC B F to n
  | 0, n, h => absurd h (by omega)
  | h + 1, n, hn => by
    unfold bestC
    by_cases e : n < h
    · have := bestC_le B F to e
      split
      · omega
      · exact this
    · obtain rfl : n = h := by omega
      split
      · exact Int.le_refl _
      · omega
def lowC (B F : List Int) (to : Int) : Nat := bestC B F to F.length
def rowC (B F Ps : List Int) : List Int := Ps.map fun to => valC B F to (lowC B F to)
def byC (B F Ps : List Int) : List Int := Ps.map fun to => (lowC B F to : Int)
section
variable (m : Mnt) (day pos : Int) (l : List Tgt)
/-- The least costs up to each place of target i - 1. -/
def dpB : Nat → List Int
  | 0 => [0]
  | i + 1 => rowC (dpB i) (froL m day pos l i) (froL m day pos l (i + 1))
def cameL (i : Nat) : List Int := byC (dpB m day pos l i) (froL m day pos l i) (froL m day pos l (i + 1))
def potL : List (List Int) := (List.range l.length).map fun i => dpB m day pos l (i + 1)
def leastC : Int := minF (dpB m day pos l l.length)
/-- The place on the way back: j steps behind the end. -/
def backC (k0 : Nat) : Nat → Nat
  | 0 => k0
  | j + 1 => lowC (dpB m day pos l (l.length - 1 - j)) (froL m day pos l (l.length - 1 - j)) (((froL m day pos l (l.length - j))[backC k0 j]?).getD 0)
def wayC (k0 j : Nat) : Nat := backC m day pos l k0 j
/-- The turns that are chosen. -/
def turnsC (k0 : Nat) : List Int := (List.range l.length).map fun i => (((l[i]?).map (turnsV m day)).getD [])[wayC m day pos l k0 (l.length - 1 - i)]?.getD 0
end
variable {m : Mnt} {day pos : Int} {l : List Tgt}
theorem dpB_len : ∀ i, i ≤ l.length → (dpB m day pos l i).length = (froL m day pos l i).length
  | 0, _ => rfl
  | i + 1, _ => by show (rowC _ _ _).length = _; unfold rowC; rw [List.length_map]
theorem minF_mem : ∀ {l : List Int}, l ≠ [] → minF l ∈ l := by
  have h : ∀ (r : List Int) (a : Int), r.foldl mn a = a ∨ r.foldl mn a ∈ r := by
    intro r
    induction r with
    | nil => exact fun a => .inl rfl
    | cons y r ih =>
      intro a
      show List.foldl mn (mn a y) r = a ∨ List.foldl mn (mn a y) r ∈ y :: r
      rcases ih (mn a y) with h | h
      · rw [h]
        unfold mn
        split
        · exact .inr (by simp)
        · exact .inl rfl
      · exact .inr (List.mem_cons_of_mem _ h)
  intro l hl
  match l, hl with
  | a :: r, _ =>
    rcases h r a with e | e
    · show List.foldl mn a r ∈ a :: r
      rw [e]; simp
    · exact List.mem_cons_of_mem _ e
theorem fro_some (hne : ∀ t ∈ l, 0 < (turnsV m day t).length) : ∀ i, i ≤ l.length → 0 < (froL m day pos l i).length := by
  intro i hi
  unfold froL
  by_cases h : i = 0
  · rw [if_pos h]; exact Nat.one_pos
  · have ht : l[i - 1]? = some l[i - 1] := List.getElem?_eq_getElem (by omega)
    rw [if_neg h, ht]
    show 0 < (posL _ _).length
    unfold posL
    rw [List.length_map]
    exact hne _ (List.getElem_mem _)
theorem lowC_lt (hne : ∀ t ∈ l, 0 < (turnsV m day t).length) {i : Nat} (hi : i ≤ l.length) (B : List Int) (to : Int) : lowC B (froL m day pos l i) to < (froL m day pos l i).length := bestC_lt _ _ _ (fro_some hne i hi)
def EndC (m : Mnt) (day pos : Int) (l : List Tgt) (k0 : Nat) : Prop := (dpB m day pos l l.length)[k0]? = some (leastC m day pos l)
theorem leastC_mem (hne : ∀ t ∈ l, 0 < (turnsV m day t).length) : leastC m day pos l ∈ dpB m day pos l l.length := by
  have h0 : dpB m day pos l l.length ≠ [] := fun e => by
    have h1 := dpB_len (m := m) (day := day) (pos := pos) l.length (Nat.le_refl _)
    have h2 := fro_some (pos := pos) hne l.length (Nat.le_refl _)
    rw [e] at h1
    simp at h1
    omega
  exact minF_mem h0
variable {k0 : Nat}
theorem wayC_lt (hk0 : EndC m day pos l k0) (hne : ∀ t ∈ l, 0 < (turnsV m day t).length) : ∀ j, j ≤ l.length → wayC m day pos l k0 j < (froL m day pos l (l.length - j)).length
  | 0, _ => by
    have h := (List.getElem?_eq_some_iff.1 hk0).1
    rw [dpB_len _ (Nat.le_refl _)] at h
    exact h
  | j + 1, h => by
    show lowC _ _ _ < _
    rw [show l.length - (j + 1) = l.length - 1 - j by omega]
    exact lowC_lt hne (by omega) _ _
theorem wayC_succ (j : Nat) : wayC m day pos l k0 (j + 1) = lowC (dpB m day pos l (l.length - 1 - j)) (froL m day pos l (l.length - 1 - j)) (((froL m day pos l (l.length - j))[wayC m day pos l k0 j]?).getD 0) := rfl
theorem came_at (hk0 : EndC m day pos l k0) (hne : ∀ t ∈ l, 0 < (turnsV m day t).length) {j : Nat} (hj : j < l.length) : (cameL m day pos l (l.length - 1 - j))[wayC m day pos l k0 j]? = some (wayC m day pos l k0 (j + 1) : Int) := by
  have h := wayC_lt hk0 hne j (by omega)
  have e : l.length - 1 - j + 1 = l.length - j := by omega
  unfold cameL byC
  rw [e, List.getElem?_map, List.getElem?_eq_getElem h, wayC_succ, List.getElem?_eq_getElem h]
  rfl
theorem turns_at (hk0 : EndC m day pos l k0) (hne : ∀ t ∈ l, 0 < (turnsV m day t).length) {i : Nat} {t : Tgt} (ht : l[i]? = some t) : (turnsV m day t)[wayC m day pos l k0 (l.length - 1 - i)]? = some ((turnsC m day pos l k0)[i]?.getD 0) := by
  have hi := (List.getElem?_eq_some_iff.1 ht).1
  have h := wayC_lt hk0 hne (l.length - 1 - i) (by omega)
  rw [show l.length - (l.length - 1 - i) = i + 1 by omega, froL_succ ht] at h
  have h2 : (posV m day t).length = (turnsV m day t).length := by unfold posV posL; rw [List.length_map]
  unfold turnsC
  rw [List.getElem?_map, List.getElem?_range hi, List.getElem?_eq_getElem (by omega)]
  simp only [Option.map_some, Option.getD_some, ht]
  rw [List.getElem?_eq_getElem (by omega)]
  rfl
theorem turnsC_len : (turnsC m day pos l k0).length = l.length := by unfold turnsC; rw [List.length_map, List.length_range]
theorem turnsC_ok (hk0 : EndC m day pos l k0) (hne : ∀ t ∈ l, 0 < (turnsV m day t).length) : pathErr m day l (turnsC m day pos l k0) = 0 := by
  unfold pathErr
  rw [if_neg (by rw [turnsC_len]; simp), path_good fun i t k ht hk => ?_, if_neg (by simp)]
  have h := turns_at hk0 hne ht
  rw [hk] at h
  exact decide_eq_true (List.mem_of_getElem? h)
theorem turnsC_upto (hk0 : EndC m day pos l k0) (hne : ∀ t ∈ l, 0 < (turnsV m day t).length) : ∀ i, i ≤ l.length →
    (dpB m day pos l i)[wayC m day pos l k0 (l.length - i)]? = some (costL pos ((pathL m day l (turnsC m day pos l k0)).take i)) ∧ (froL m day pos l i)[wayC m day pos l k0 (l.length - i)]? = some (lastI pos ((pathL m day l (turnsC m day pos l k0)).take i))
  | 0, _ => by
    have h := wayC_lt hk0 hne l.length (Nat.le_refl _)
    rw [Nat.sub_self] at h
    have h0 : wayC m day pos l k0 (l.length - 0) = 0 := by
      have : (froL m day pos l 0).length = 1 := rfl
      rw [Nat.sub_zero]
      omega
    rw [h0]
    exact ⟨rfl, rfl⟩
  | i + 1, hi => by
    obtain ⟨h1, h2⟩ := turnsC_upto hk0 hne i (by omega)
    have ht : l[i]? = some l[i] := List.getElem?_eq_getElem (by omega)
    have hk := turns_at hk0 hne ht
    have hki : (turnsC m day pos l k0)[i]? = some ((turnsC m day pos l k0)[i]?.getD 0) := by
      rw [List.getElem?_eq_getElem (by rw [turnsC_len]; omega)]; rfl
    have e1 : l.length - (i + 1) = l.length - 1 - i := by omega
    have hto : (froL m day pos l (i + 1))[wayC m day pos l k0 (l.length - (i + 1))]? = some (posK m day l[i] ((turnsC m day pos l k0)[i]?.getD 0)) := by
      rw [froL_succ ht, e1]; exact posL_get hk
    rw [pathL_snoc ht hki, lastI_snoc, costL_snoc]
    refine ⟨?_, hto⟩
    show (rowC _ _ _)[_]? = _
    unfold rowC
    rw [List.getElem?_map, hto]
    simp only [Option.map_some]
    congr 1
    have e2 : l.length - 1 - (l.length - (i + 1)) = i := by omega
    have e3 : l.length - (l.length - (i + 1)) = i + 1 := by omega
    have hw : lowC (dpB m day pos l i) (froL m day pos l i) (posK m day l[i] ((turnsC m day pos l k0)[i]?.getD 0)) = wayC m day pos l k0 (l.length - i) := by
      rw [show l.length - i = l.length - (i + 1) + 1 by omega, wayC_succ, e2, e3, hto]
      rfl
    rw [hw]
    unfold valC
    rw [h1, h2]
    rfl
/-- The choice costs the least cost. -/
theorem turnsC_cost (hk0 : EndC m day pos l k0) (hne : ∀ t ∈ l, 0 < (turnsV m day t).length) : costL pos (pathL m day l (turnsC m day pos l k0)) = leastC m day pos l := by
  have h := (turnsC_upto hk0 hne l.length (Nat.le_refl _)).1
  rw [Nat.sub_self, List.take_of_length_le (by rw [pathL_len turnsC_len]; exact Nat.le_refl _)] at h
  exact Option.some.inj (h.symm.trans hk0)
theorem potL_at {i : Nat} (hi : i < l.length) : (potL m day pos l)[i]? = some (dpB m day pos l (i + 1)) := by unfold potL; rw [List.getElem?_map, List.getElem?_range hi]; rfl
theorem potL_len : (potL m day pos l).length = l.length := by unfold potL; rw [List.length_map, List.length_range]
theorem potL_bef {i : Nat} (hi : i ≤ l.length) : befL (potL m day pos l) i = dpB m day pos l i := by
  cases i with
  | zero => rfl
  | succ i => exact befL_succ (potL_at (by omega))
theorem fro_in2 {i : Nat} (hm : mntErr m = 0) (hp : m.ls ≤ pos ∧ pos ≤ m.ms) : ∀ z ∈ froL m day pos l i, -25920000 ≤ z ∧ z ≤ 25920000 := by
  obtain ⟨⟨a1, a2, a3, a4⟩, -⟩ := mnt_right hm
  intro z hz
  unfold froL at hz
  split at hz
  · obtain rfl : z = pos := by simpa using hz
    omega
  · cases h : l[i - 1]? with
    | none => rw [h] at hz; simp at hz
    | some t =>
      rw [h] at hz
      have := posV_in (show z ∈ posV m day t by simpa using hz)
      omega
theorem cost_bound2 {a b : Int} (ha : -25920000 ≤ a ∧ a ≤ 25920000) (hb : -25920000 ≤ b ∧ b ≤ 25920000) : 0 ≤ costF a b ∧ costF a b ≤ 10100000000 := by
  unfold costF wayF
  split <;> omega
theorem dpB_in (hm : mntErr m = 0) (hp : m.ls ≤ pos ∧ pos ≤ m.ms) (hne : ∀ t ∈ l, 0 < (turnsV m day t).length) : ∀ i, i ≤ l.length → ∀ z ∈ dpB m day pos l i, 0 ≤ z ∧ z ≤ 10100000000 * i
  | 0, _, z, hz => by
    obtain rfl : z = 0 := by simpa [dpB] using hz
    omega
  | i + 1, hi, z, hz => by
    have ih := dpB_in hm hp hne i (by omega)
    have hz : z ∈ rowC (dpB m day pos l i) (froL m day pos l i) (froL m day pos l (i + 1)) := hz
    unfold rowC at hz
    obtain ⟨to, hto, rfl⟩ := List.mem_map.1 hz
    have h1 := lowC_lt (pos := pos) hne (show i ≤ l.length by omega) (dpB m day pos l i) to
    have h2 := dpB_len (m := m) (day := day) (pos := pos) (l := l) i (by omega)
    unfold valC
    rw [List.getElem?_eq_getElem (by omega), List.getElem?_eq_getElem h1]
    have h3 := ih _ (List.getElem_mem (show lowC (dpB m day pos l i) (froL m day pos l i) to < (dpB m day pos l i).length by omega))
    have h4 := cost_bound2 (fro_in2 hm hp _ (List.getElem_mem h1)) (fro_in2 hm hp _ hto)
    simp only [Option.getD_some]
    omega
theorem potL_shape : ShapeOk m day l (potL m day pos l) := by
  refine ⟨potL_len, fun i p t hp ht => ?_⟩
  have hi := (List.getElem?_eq_some_iff.1 ht).1
  rw [potL_at hi] at hp
  cases hp
  rw [dpB_len _ (by omega), froL_succ ht]
  unfold posV posL
  rw [List.length_map]
theorem potL_proof (hne : ∀ t ∈ l, 0 < (turnsV m day t).length) : ProofOk m day pos l (potL m day pos l) := by
  intro i p t hp ht k z to hz hto n b a hb ha
  have hi := (List.getElem?_eq_some_iff.1 ht).1
  rw [potL_at hi] at hp
  cases hp
  rw [potL_bef (by omega)] at hb
  have hz : (rowC (dpB m day pos l i) (froL m day pos l i) (froL m day pos l (i + 1)))[k]? = some z := hz
  unfold rowC at hz
  rw [froL_succ ht, List.getElem?_map, hto] at hz
  obtain rfl := Option.some.inj hz
  have h := bestC_le (dpB m day pos l i) (froL m day pos l i) to (List.getElem?_eq_some_iff.1 ha).1
  have e : valC (dpB m day pos l i) (froL m day pos l i) to n = b + costF a to := by unfold valC; rw [hb, ha]; rfl
  rw [e] at h
  exact h
theorem leastC_bound : leastC m day pos l = minF (befL (potL m day pos l) l.length) := by rw [potL_bef (Nat.le_refl _)]; rfl
/-- No choice costs less. -/
theorem leastC_le {ks : List Int} (hne : ∀ t ∈ l, 0 < (turnsV m day t).length) (hk : pathErr m day l ks = 0) : leastC m day pos l ≤ costL pos (pathL m day l ks) := by
  rw [leastC_bound]
  exact bound_le potL_shape (potL_proof hne) hk
end Go.Proofs.Ytdidcpealabaiaa

end

section
/- The class of worlds of a region whose order is left open: two lists are appended to, and both new lists are stored into cells: 'p.a, q.b = append(p.a, x), append(q.b, y)'. -/
namespace Go.Proofs.Ytdidcpealabaiaa
open Go Go.RowKit

/-- AP: the class of the two lists; operations s1 and s2 store the new lists into the cells p1 and p2. -/
def ApS (AP : (Nat → Option Pick) → World → Prop) (s1 s2 : Nat) (p1 p2 : Addr) (v1 v2 : (Nat → Option Pick) → Value) (g : Nat → Option Pick) (f : Nat → Bool) (w' : World) : Prop :=
  ∃ w1, AP g w1 ∧ (f s1 = false → f s2 = false → w' = w1) ∧ (f s1 = true → f s2 = false → w' = w1.setCell p1 (v1 g)) ∧ (f s2 = true → w' = (w1.setCell p1 (v1 g)).setCell p2 (v2 g))
section
variable {AP : (Nat → Option Pick) → World → Prop} {s1 s2 k : Nat} {p1 p2 : Addr} {v1 v2 : (Nat → Option Pick) → Value} {g g' : Nat → Option Pick} {f : Nat → Bool} {w' w'' : World}
theorem ApS.start (h : AP g w') (h1 : f s1 = false) (h2 : f s2 = false) : ApS AP s1 s2 p1 p2 v1 v2 g f w' :=
  ⟨w', h, fun _ _ => rfl, fun e => (by rw [h1] at e; cases e), fun e => (by rw [h2] at e; cases e)⟩
theorem ApS.same (h : ApS AP s1 s2 p1 p2 v1 v2 g f w') (h1 : k ≠ s1) (h2 : k ≠ s2) : ApS AP s1 s2 p1 p2 v1 v2 g (Fx.add f k) w' := by
  obtain ⟨w1, a, b, c, d⟩ := h
  have e1 := add_ne' (f := f) h1
  have e2 := add_ne' (f := f) h2
  exact ⟨w1, a, by rw [e1, e2]; exact b, by rw [e1, e2]; exact c, by rw [e2]; exact d⟩
theorem ApS.early (h : ApS AP s1 s2 p1 p2 v1 v2 g f w') (h1 : f s1 = false) (h2 : f s2 = false) : AP g w' := by
  obtain ⟨w1, a, b, -, -⟩ := h
  rw [b h1 h2]
  exact a
theorem ApS.lift (h : AP g' w'') (h1 : f s1 = false) (h2 : f s2 = false) (k1 : k ≠ s1) (k2 : k ≠ s2) : ApS AP s1 s2 p1 p2 v1 v2 g' (Fx.add f k) w'' :=
  (ApS.start h h1 h2).same k1 k2
theorem ApS.store1 (h : ApS AP s1 s2 p1 p2 v1 v2 g f w') (h1 : f s1 = false) (h2 : f s2 = false) (h12 : s1 ≠ s2) : ApS AP s1 s2 p1 p2 v1 v2 g (Fx.add f s1) (w'.setCell p1 (v1 g)) := by
  have e2 := (add_ne' (f := f) h12).trans h2
  exact ⟨w', h.early h1 h2, fun e => (by rw [add_same] at e; cases e), fun _ _ => rfl, fun e => (by rw [e2] at e; cases e)⟩
theorem ApS.mid (h : ApS AP s1 s2 p1 p2 v1 v2 g f w') (h1 : f s1 = true) (h2 : f s2 = false) : ∃ w1, AP g w1 ∧ w' = w1.setCell p1 (v1 g) := by
  obtain ⟨w1, a, -, c, -⟩ := h
  exact ⟨w1, a, c h1 h2⟩
theorem ApS.store2 (h : ApS AP s1 s2 p1 p2 v1 v2 g f w') (h1 : f s1 = true) (h2 : f s2 = false) : ApS AP s1 s2 p1 p2 v1 v2 g (Fx.add f s2) (w'.setCell p2 (v2 g)) := by
  obtain ⟨w1, a, c⟩ := h.mid h1 h2
  subst c
  exact ⟨w1, a, fun _ e => (by rw [add_same] at e; cases e), fun _ e => (by rw [add_same] at e; cases e), fun _ => rfl⟩
theorem ApS.done (h : ApS AP s1 s2 p1 p2 v1 v2 g f w') (h2 : f s2 = true) : ∃ w1, AP g w1 ∧ w' = (w1.setCell p1 (v1 g)).setCell p2 (v2 g) := by
  obtain ⟨w1, a, -, -, d⟩ := h
  exact ⟨w1, a, d h2⟩
end
end Go.Proofs.Ytdidcpealabaiaa

end

section
/- Contracts of models of pointing: the check, and the prediction times the denominator; both sides. -/
namespace Go.Proofs.Ytdidcpealabaiaa
open Go Go.RowKit

/-- The error of a model. -/
def mdlErr (T : List Int) (D : Int) : Int := if withinB (T.length : Int) 1 3 = false then 10 else if withinB D 1 1000000000000 = false ∨ smallL 1000000000000 T = false then 2 else if gcdF D T ≠ 1 then 3 else 0
end Go.Proofs.Ytdidcpealabaiaa

end

section
/- Contracts of models of pointing, of the reference; products of terms and shapes on both sides. -/
namespace Go.Proofs.Ytdidcpealabaiaa
open Go Go.RowKit

/-- The sum of products of terms and shapes, of the first k. -/
def dotTo (T S : List Int) (k : Nat) : Int := (((T.zip S).take k).map fun p => p.1 * p.2).sum
end Go.Proofs.Ytdidcpealabaiaa

end

section
/- Determinants by the first row: plain law. -/
namespace Go.Proofs.Ytdidcpealabaiaa
open Go Go.RowKit

def sgn (c : Nat) : Int := if c % 2 = 0 then 1 else -1
def cut (c : Nat) (r : List Int) : List Int := r.take c ++ r.drop (c + 1)
def minorM (c : Nat) (M : List (List Int)) : List (List Int) := (M.drop 1).map (cut c)
def detR : Nat → List (List Int) → Int
  | 0, _ => 1
  | n + 1, M => ((List.range (n + 1)).map fun c => sgn c * (M.headD []).getD c 0 * detR n (minorM c M)).sum
def detTo (n : Nat) (M : List (List Int)) (k : Nat) : Int := ((List.range k).map fun c => sgn c * (M.headD []).getD c 0 * detR n (minorM c M)).sum
theorem detTo_zero (n : Nat) (M : List (List Int)) : detTo n M 0 = 0 := rfl
theorem detTo_succ (n : Nat) (M : List (List Int)) (k : Nat) : detTo n M (k + 1) = detTo n M k + sgn k * (M.headD []).getD k 0 * detR n (minorM k M) := by
  unfold detTo
  rw [List.range_succ, List.map_append, List.sum_append]
  simp
def InW (z : Int) : Prop := -9223372036854775808 ≤ z ∧ z ≤ 9223372036854775807
/-- No step of the computation leaves the numbers. -/
def DetOk : Nat → List (List Int) → Prop
  | 0, _ => True
  | n + 1, M => ∀ c, c < n + 1 → InW (sgn c * (M.headD []).getD c 0) ∧ InW (sgn c * (M.headD []).getD c 0 * detR n (minorM c M)) ∧ InW (detTo n M (c + 1)) ∧ DetOk n (minorM c M)
end Go.Proofs.Ytdidcpealabaiaa

end
