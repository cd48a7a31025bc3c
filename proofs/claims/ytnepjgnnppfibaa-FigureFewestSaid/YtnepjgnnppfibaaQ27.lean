import Derived.Deep.CutBlock
import Derived.Test.YtnepjgnnppfibaaQ25
import Derived.Test.YtnepjgnnppfibaaQ26

section
/- The walk of the statement on the fewest sessions. -/
namespace Go.Proofs.Ytnepjgnnppfibaa
open Go Go.RowKit

section
variable {A V B : Option Addr} {n ch nv cv m d : Nat} {h v : List Int} {t : List TRow} {ws : List (List Int)} {M T E : Int} {w : World}
theorem fewest_is (hE : fewErr h v (t.map (·.xs)) M T = E) (hn : n ≤ 1000) (hnv : nv ≤ 1000) (hm : m ≤ 1000) (hx : Reads w w.heap.size 1 A n (h.map (.int .i64))) (hv : Reads w w.heap.size 1 V nv (v.map (.int .i64))) (hk : ReadsT w w.heap.size B m t) :
    Calls Try.prog 69 #[.slice A n ch, .slice V nv cv, .agg #[.slice B m d, .int .i64 M, .int .i64 T]] w (FewPost h v (t.map (·.xs)) M T m E w) := by
  by_cases h1 : twoErr h v = 0
  · by_cases h2 : kindErr n (t.map (·.xs)) M T = 0
    · exact few_ok A V B n ch nv cv m d h v t M T E hE hn hnv hm h1 h2 w hx hv hk
    · exact few_bad A V B n ch nv cv m d h v t M T E hE hn hnv hm (.inr h2) w hx hv hk
  · exact few_bad A V B n ch nv cv m d h v t M T E hE hn hnv hm (.inl h1) w hx hv hk
theorem FewPost.err {e : Ending} {w' : World} (hp : FewPost h v ws M T m E w e w') (h0 : E ≠ 0) : e = .returned (.tuple #[.slice none 0 0, .int .i64 E]) ∧ Below w.heap.size w w' := by
  obtain ⟨hb, ⟨-, he⟩ | ⟨hz, -⟩⟩ := hp
  · exact ⟨he, hb⟩
  · exact absurd hz h0
theorem FewPost.fine {e : Ending} {w' : World} {i : Nat} (hp : FewPost h v ws M T m 0 w e w') (hi : bestK h v ws T (M + 1).toNat ((M + 1).toNat ^ ws.length) = some i) :
    ∃ A c, e = .returned (.tuple #[.slice A m c, .int .i64 0]) ∧ Below w.heap.size w w' ∧ Reads w' w'.heap.size 1 A m ((lst (M + 1).toNat m i).map (.int .i64)) := by
  obtain ⟨hb, ⟨hz, -⟩ | ⟨-, A, c, j, hj, he, hr⟩⟩ := hp
  · exact absurd rfl hz
  · rw [hi] at hj
    obtain rfl := Option.some.inj hj
    exact ⟨A, c, he, hb, hr⟩
theorem few_zero (hE : fewErr h v ws M T = 0) : twoErr h v = 0 ∧ kindErr h.length ws M T = 0 ∧ ∃ i, bestK h v ws T (M + 1).toNat ((M + 1).toNat ^ ws.length) = some i := by
  unfold fewErr at hE
  by_cases h1 : twoErr h v = 0
  · rw [h1, if_neg (by simp)] at hE
    by_cases h2 : kindErr h.length ws M T = 0
    · rw [h2, if_neg (by simp)] at hE
      cases hb : bestK h v ws T (M + 1).toNat ((M + 1).toNat ^ ws.length) with
      | none => rw [hb] at hE; exact absurd hE (by decide)
      | some i => exact ⟨h1, h2, i, rfl⟩
    · rw [if_pos h2] at hE; exact absurd hE h2
  · rw [if_pos h1] at hE; exact absurd hE h1
end
/-- The copies, and the answer. -/
def PfFF (n nv m : Nat) (h v : List Int) (ws : List (List Int)) (ls : List Int) (i : Nat) (x : (Option Addr × Nat) × List TRow) (w : World) : Prop :=
  (i = 1 → Reads w w.heap.size 1 x.1.1 n (h.map (.int .i64))) ∧ (i = 3 → Reads w w.heap.size 1 x.1.1 nv (v.map (.int .i64))) ∧ (i = 6 → x.2.map TRow.xs = ws ∧ ReadsT w w.heap.size x.1.1 m x.2) ∧ (i = 12 → Reads w w.heap.size 1 x.1.1 m (ls.map (.int .i64)))
theorem PfFF.stb {n nv m : Nat} {h v : List Int} {ws : List (List Int)} {ls : List Int} : StbT (PfFF n nv m h v ws ls) := fun _ _ _ _ hb k => ⟨fun e => ((k.1 e).below hb).more hb.size, fun e => ((k.2.1 e).below hb).more hb.size, fun e => ⟨(k.2.2.1 e).1, ((k.2.2.1 e).2.below hb).more hb.size⟩, fun e => ((k.2.2.2 e).below hb).more hb.size⟩

set_option maxRecDepth 100000 in
set_option maxHeartbeats 16000000 in
theorem lawFF_any (A : Option Addr) (n c : Nat) (h : List Int) (V : Option Addr) (nv cv : Nat) (v : List Int) (B : Option Addr) (m d : Nat) (t : List TRow) (M T : Int) (w : World) (hnc : n ≤ c ∧ c ≤ 9223372036854775807) (_ : h.length = n) (_ : ∀ z ∈ h, I64 z) (hx : Reads w w.heap.size 1 A n (h.map (.int .i64)))
    (hnv : nv ≤ cv ∧ cv ≤ 9223372036854775807) (_ : v.length = nv) (_ : ∀ z ∈ v, I64 z) (hv : Reads w w.heap.size 1 V nv (v.map (.int .i64)))
    (hmd : m ≤ d ∧ d ≤ 9223372036854775807) (_ : t.length = m) (_ : ∀ r ∈ t, ∀ z ∈ r.xs, I64 z) (hy : ReadsT w w.heap.size B m t) (_ : I64 M) (_ : I64 T) :
    Calls Try.prog 16 #[.slice A n c, .slice V nv cv, .agg #[.slice B m d, .int .i64 M, .int .i64 T]] w fun e w' => e = .returned (.bool true) ∧ Below w.heap.size w w' := by
  have hl : h.length = n := by have := hx.1; simpa using this
  have hlv : v.length = nv := by have := hv.1; simpa using this
  have htl : (t.map (·.xs)).length = m := by rw [List.length_map]; exact hy.len
  have HX := Lib.hid hx
  have HV := Lib.hid hv
  have HY := Lib.hid hy
  have HL := Lib.hid hl
  have HTL := Lib.hid htl
  clear hx hy hv hl hlv htl
  by_cases hn45 : n ≤ 45
  rotate_left
  · have hd2 : decide ((45 : Int) < (n : Int)) = true := by simp; omega
    go_enter Try.func16, Try.ntmps16
    go_wp2_with fail
    generalize hwn : (w.alloc (.cells #[.slice B m d, .int .i64 (M), .int .i64 (T)] 107)) = w1
    have hbn : Below w.heap.size w w1 := by rw [← hwn]; repeat' (first | exact Below.refl _ _ | refine below_drewN ?_ _ | refine Below.drew ?_ | refine Below.alloc ?_ (by first | omega | (simp; done) | (simp; omega) | (simp [World.setCell]; omega)) _ | refine Below.setCell ?_ (by first | omega | (simp; done) | (simp; omega)) _)
    have HB1 := Lib.hid (show Below w.heap.size w w1 from hbn)
    have K0_1 := Lib.hid (show Blk w1 (w.heap.size) 107 #[.slice B m d, .int .i64 (M), .int .i64 (T)] by rw [← hwn]; repeat' (first | exact Blk.at_ _ (by first | rfl | (simp; done) | (simp; omega)) _ _ | refine Blk.drewN ?_ _ | refine Blk.drew ?_ | refine Blk.alloc ?_ _ | refine Blk.far ?_ (by first | omega | (simp; done) | (simp; omega)) _ | assumption))
    have HN1 := Lib.hid hbn
    have hz1 := hbn.size
    clear hwn hbn
    have l0_1 : w.heap.size < w1.heap.size := K0_1.out.lt
    have z0_0_1 : w1.cell? ⟨w.heap.size, 0, none⟩ = some (.slice B m d) := K0_1.out.cell 0
    have z0_1_1 : w1.cell? ⟨w.heap.size, 1, none⟩ = some (.int .i64 (M)) := K0_1.out.cell 1
    have z0_2_1 : w1.cell? ⟨w.heap.size, 2, none⟩ = some (.int .i64 (T)) := K0_1.out.cell 2
    refine (awake6_any _).mono ?_
    rintro e w2 ⟨rfl, hb⟩
    have HB2 := Lib.hid (show Below w.heap.size w w2 from step_below hb (by repeat' (first | exact Below.refl _ _ | exact HB1.out | refine below_drewN ?_ _ | refine Below.drew ?_ | refine Below.alloc ?_ (by first | omega | (simp; done) | (simp; omega) | (simp [World.setCell]; omega)) _ | refine Below.setCell ?_ (by first | omega | (simp; done) | (simp; omega)) _ | assumption)))
    have K0_2 := Lib.hid (step_blk hb (show Blk _ (w.heap.size) 107 #[.slice B m d, .int .i64 (M), .int .i64 (T)] by repeat' (first | exact K0_1.out | exact Blk.at_ _ (by first | rfl | (simp; done) | (simp; omega)) _ _ | refine Blk.drewN ?_ _ | refine Blk.drew ?_ | refine Blk.alloc ?_ _ | refine Blk.far ?_ (by first | omega | (simp; done) | (simp; omega)) _ | assumption)))
    have hz2 := hb.size
    try simp only [World.size_alloc, World.drewN, World.drew] at hz2
    clear hb K0_1 z0_0_1 z0_1_1 z0_2_1 l0_1
    have l0_2 : w.heap.size < w2.heap.size := K0_2.out.lt
    have z0_0_2 : w2.cell? ⟨w.heap.size, 0, none⟩ = some (.slice B m d) := K0_2.out.cell 0
    have z0_1_2 : w2.cell? ⟨w.heap.size, 1, none⟩ = some (.int .i64 (M)) := K0_2.out.cell 1
    have z0_2_2 : w2.cell? ⟨w.heap.size, 2, none⟩ = some (.int .i64 (T)) := K0_2.out.cell 2
    go_wp2
    go_ret
    exact ⟨rfl, by repeat' (first | exact Below.refl _ _ | exact HB2.out | refine below_drewN ?_ _ | refine Below.drew ?_ | refine Below.alloc ?_ (by first | omega | (simp; done) | (simp; omega) | (simp [World.setCell]; omega)) _ | refine Below.setCell ?_ (by first | omega | (simp; done) | (simp; omega)) _ | assumption)⟩
  have hd2 : decide ((45 : Int) < (n : Int)) = false := by simp; omega
  by_cases hv45 : nv ≤ 45
  rotate_left
  · have hd3 : decide ((45 : Int) < (nv : Int)) = true := by simp; omega
    go_enter Try.func16, Try.ntmps16
    go_wp2_with fail
    generalize hwn : (w.alloc (.cells #[.slice B m d, .int .i64 (M), .int .i64 (T)] 107)) = w1
    have hbn : Below w.heap.size w w1 := by rw [← hwn]; repeat' (first | exact Below.refl _ _ | refine below_drewN ?_ _ | refine Below.drew ?_ | refine Below.alloc ?_ (by first | omega | (simp; done) | (simp; omega) | (simp [World.setCell]; omega)) _ | refine Below.setCell ?_ (by first | omega | (simp; done) | (simp; omega)) _)
    have HB1 := Lib.hid (show Below w.heap.size w w1 from hbn)
    have K0_1 := Lib.hid (show Blk w1 (w.heap.size) 107 #[.slice B m d, .int .i64 (M), .int .i64 (T)] by rw [← hwn]; repeat' (first | exact Blk.at_ _ (by first | rfl | (simp; done) | (simp; omega)) _ _ | refine Blk.drewN ?_ _ | refine Blk.drew ?_ | refine Blk.alloc ?_ _ | refine Blk.far ?_ (by first | omega | (simp; done) | (simp; omega)) _ | assumption))
    have HN1 := Lib.hid hbn
    have hz1 := hbn.size
    clear hwn hbn
    have l0_1 : w.heap.size < w1.heap.size := K0_1.out.lt
    have z0_0_1 : w1.cell? ⟨w.heap.size, 0, none⟩ = some (.slice B m d) := K0_1.out.cell 0
    have z0_1_1 : w1.cell? ⟨w.heap.size, 1, none⟩ = some (.int .i64 (M)) := K0_1.out.cell 1
    have z0_2_1 : w1.cell? ⟨w.heap.size, 2, none⟩ = some (.int .i64 (T)) := K0_1.out.cell 2
    refine (awake6_any _).mono ?_
    rintro e w2 ⟨rfl, hb⟩
    have HB2 := Lib.hid (show Below w.heap.size w w2 from step_below hb (by repeat' (first | exact Below.refl _ _ | exact HB1.out | refine below_drewN ?_ _ | refine Below.drew ?_ | refine Below.alloc ?_ (by first | omega | (simp; done) | (simp; omega) | (simp [World.setCell]; omega)) _ | refine Below.setCell ?_ (by first | omega | (simp; done) | (simp; omega)) _ | assumption)))
    have K0_2 := Lib.hid (step_blk hb (show Blk _ (w.heap.size) 107 #[.slice B m d, .int .i64 (M), .int .i64 (T)] by repeat' (first | exact K0_1.out | exact Blk.at_ _ (by first | rfl | (simp; done) | (simp; omega)) _ _ | refine Blk.drewN ?_ _ | refine Blk.drew ?_ | refine Blk.alloc ?_ _ | refine Blk.far ?_ (by first | omega | (simp; done) | (simp; omega)) _ | assumption)))
    have hz2 := hb.size
    try simp only [World.size_alloc, World.drewN, World.drew] at hz2
    clear hb K0_1 z0_0_1 z0_1_1 z0_2_1 l0_1
    have l0_2 : w.heap.size < w2.heap.size := K0_2.out.lt
    have z0_0_2 : w2.cell? ⟨w.heap.size, 0, none⟩ = some (.slice B m d) := K0_2.out.cell 0
    have z0_1_2 : w2.cell? ⟨w.heap.size, 1, none⟩ = some (.int .i64 (M)) := K0_2.out.cell 1
    have z0_2_2 : w2.cell? ⟨w.heap.size, 2, none⟩ = some (.int .i64 (T)) := K0_2.out.cell 2
    go_wp2
    go_ret
    exact ⟨rfl, by repeat' (first | exact Below.refl _ _ | exact HB2.out | refine below_drewN ?_ _ | refine Below.drew ?_ | refine Below.alloc ?_ (by first | omega | (simp; done) | (simp; omega) | (simp [World.setCell]; omega)) _ | refine Below.setCell ?_ (by first | omega | (simp; done) | (simp; omega)) _ | assumption)⟩
  have hd3 : decide ((45 : Int) < (nv : Int)) = false := by simp; omega
  by_cases hm8 : m ≤ 8
  rotate_left
  · have hd4 : decide ((8 : Int) < (m : Int)) = true := by simp; omega
    go_enter Try.func16, Try.ntmps16
    go_wp2_with fail
    generalize hwn : (w.alloc (.cells #[.slice B m d, .int .i64 (M), .int .i64 (T)] 107)) = w1
    have hbn : Below w.heap.size w w1 := by rw [← hwn]; repeat' (first | exact Below.refl _ _ | refine below_drewN ?_ _ | refine Below.drew ?_ | refine Below.alloc ?_ (by first | omega | (simp; done) | (simp; omega) | (simp [World.setCell]; omega)) _ | refine Below.setCell ?_ (by first | omega | (simp; done) | (simp; omega)) _)
    have HB1 := Lib.hid (show Below w.heap.size w w1 from hbn)
    have K0_1 := Lib.hid (show Blk w1 (w.heap.size) 107 #[.slice B m d, .int .i64 (M), .int .i64 (T)] by rw [← hwn]; repeat' (first | exact Blk.at_ _ (by first | rfl | (simp; done) | (simp; omega)) _ _ | refine Blk.drewN ?_ _ | refine Blk.drew ?_ | refine Blk.alloc ?_ _ | refine Blk.far ?_ (by first | omega | (simp; done) | (simp; omega)) _ | assumption))
    have HN1 := Lib.hid hbn
    have hz1 := hbn.size
    clear hwn hbn
    have l0_1 : w.heap.size < w1.heap.size := K0_1.out.lt
    have z0_0_1 : w1.cell? ⟨w.heap.size, 0, none⟩ = some (.slice B m d) := K0_1.out.cell 0
    have z0_1_1 : w1.cell? ⟨w.heap.size, 1, none⟩ = some (.int .i64 (M)) := K0_1.out.cell 1
    have z0_2_1 : w1.cell? ⟨w.heap.size, 2, none⟩ = some (.int .i64 (T)) := K0_1.out.cell 2
    refine (awake6_any _).mono ?_
    rintro e w2 ⟨rfl, hb⟩
    have HB2 := Lib.hid (show Below w.heap.size w w2 from step_below hb (by repeat' (first | exact Below.refl _ _ | exact HB1.out | refine below_drewN ?_ _ | refine Below.drew ?_ | refine Below.alloc ?_ (by first | omega | (simp; done) | (simp; omega) | (simp [World.setCell]; omega)) _ | refine Below.setCell ?_ (by first | omega | (simp; done) | (simp; omega)) _ | assumption)))
    have K0_2 := Lib.hid (step_blk hb (show Blk _ (w.heap.size) 107 #[.slice B m d, .int .i64 (M), .int .i64 (T)] by repeat' (first | exact K0_1.out | exact Blk.at_ _ (by first | rfl | (simp; done) | (simp; omega)) _ _ | refine Blk.drewN ?_ _ | refine Blk.drew ?_ | refine Blk.alloc ?_ _ | refine Blk.far ?_ (by first | omega | (simp; done) | (simp; omega)) _ | assumption)))
    have hz2 := hb.size
    try simp only [World.size_alloc, World.drewN, World.drew] at hz2
    clear hb K0_1 z0_0_1 z0_1_1 z0_2_1 l0_1
    have l0_2 : w.heap.size < w2.heap.size := K0_2.out.lt
    have z0_0_2 : w2.cell? ⟨w.heap.size, 0, none⟩ = some (.slice B m d) := K0_2.out.cell 0
    have z0_1_2 : w2.cell? ⟨w.heap.size, 1, none⟩ = some (.int .i64 (M)) := K0_2.out.cell 1
    have z0_2_2 : w2.cell? ⟨w.heap.size, 2, none⟩ = some (.int .i64 (T)) := K0_2.out.cell 2
    go_wp2
    go_ret
    exact ⟨rfl, by repeat' (first | exact Below.refl _ _ | exact HB2.out | refine below_drewN ?_ _ | refine Below.drew ?_ | refine Below.alloc ?_ (by first | omega | (simp; done) | (simp; omega) | (simp [World.setCell]; omega)) _ | refine Below.setCell ?_ (by first | omega | (simp; done) | (simp; omega)) _ | assumption)⟩
  have hd4 : decide ((8 : Int) < (m : Int)) = false := by simp; omega
  go_enter Try.func16, Try.ntmps16
  go_wp2_with fail
  generalize hwn : (w.alloc (.cells #[.slice B m d, .int .i64 (M), .int .i64 (T)] 107)) = w1
  have hbn : Below w.heap.size w w1 := by rw [← hwn]; repeat' (first | exact Below.refl _ _ | refine below_drewN ?_ _ | refine Below.drew ?_ | refine Below.alloc ?_ (by first | omega | (simp; done) | (simp; omega) | (simp [World.setCell]; omega)) _ | refine Below.setCell ?_ (by first | omega | (simp; done) | (simp; omega)) _)
  have HB1 := Lib.hid (show Below w.heap.size w w1 from hbn)
  have K0_1 := Lib.hid (show Blk w1 (w.heap.size) 107 #[.slice B m d, .int .i64 (M), .int .i64 (T)] by rw [← hwn]; repeat' (first | exact Blk.at_ _ (by first | rfl | (simp; done) | (simp; omega)) _ _ | refine Blk.drewN ?_ _ | refine Blk.drew ?_ | refine Blk.alloc ?_ _ | refine Blk.far ?_ (by first | omega | (simp; done) | (simp; omega)) _ | assumption))
  have HN1 := Lib.hid hbn
  have hz1 := hbn.size
  clear hwn hbn
  have l0_1 : w.heap.size < w1.heap.size := K0_1.out.lt
  have z0_0_1 : w1.cell? ⟨w.heap.size, 0, none⟩ = some (.slice B m d) := K0_1.out.cell 0
  have z0_1_1 : w1.cell? ⟨w.heap.size, 1, none⟩ = some (.int .i64 (M)) := K0_1.out.cell 1
  have z0_2_1 : w1.cell? ⟨w.heap.size, 2, none⟩ = some (.int .i64 (T)) := K0_1.out.cell 2
  refine (awake6_any _).mono ?_
  rintro e w2 ⟨rfl, hb⟩
  have HB2 := Lib.hid (show Below w.heap.size w w2 from step_below hb (by repeat' (first | exact Below.refl _ _ | exact HB1.out | refine below_drewN ?_ _ | refine Below.drew ?_ | refine Below.alloc ?_ (by first | omega | (simp; done) | (simp; omega) | (simp [World.setCell]; omega)) _ | refine Below.setCell ?_ (by first | omega | (simp; done) | (simp; omega)) _ | assumption)))
  have K0_2 := Lib.hid (step_blk hb (show Blk _ (w.heap.size) 107 #[.slice B m d, .int .i64 (M), .int .i64 (T)] by repeat' (first | exact K0_1.out | exact Blk.at_ _ (by first | rfl | (simp; done) | (simp; omega)) _ _ | refine Blk.drewN ?_ _ | refine Blk.drew ?_ | refine Blk.alloc ?_ _ | refine Blk.far ?_ (by first | omega | (simp; done) | (simp; omega)) _ | assumption)))
  have hz2 := hb.size
  try simp only [World.size_alloc, World.drewN, World.drew] at hz2
  clear hb K0_1 z0_0_1 z0_1_1 z0_2_1 l0_1
  have l0_2 : w.heap.size < w2.heap.size := K0_2.out.lt
  have z0_0_2 : w2.cell? ⟨w.heap.size, 0, none⟩ = some (.slice B m d) := K0_2.out.cell 0
  have z0_1_2 : w2.cell? ⟨w.heap.size, 1, none⟩ = some (.int .i64 (M)) := K0_2.out.cell 1
  have z0_2_2 : w2.cell? ⟨w.heap.size, 2, none⟩ = some (.int .i64 (T)) := K0_2.out.cell 2
  go_upto_block 0 with fail
  go_cut [7, 8] from 35 to 53 (fun x i wx => ∃ z : Int, 1 ≤ z ∧ z ≤ 20000000 ∧ x = .int .i64 z ∧ w2 = wx)
  case first =>
    obtain ⟨tm, htm⟩ : ∃ b, withinB M 0 100 = b := ⟨_, rfl⟩
    have HTM := Lib.hid htm
    clear htm
    go_wp2
    go_loopw [7, 8] (fun x i wr => ∃ (k : Nat) (z : Int), k ≤ m ∧ i = .int .i64 k ∧ x = .int .i64 z ∧ 1 ≤ z ∧ z ≤ 100000 ∧ w2 = wr) (fun _ i _ => m - (intOf i).toNat)
    case atStart => exact ⟨0, 1, by omega, rfl, rfl, by omega, by omega, rfl⟩
    case round =>
      obtain ⟨k, z, hk, rfl, rfl, hz1, hz2, rfl⟩ := hrel
      by_cases hlt : k < m
      rotate_left
      · obtain rfl : m = k := by omega
        go_wp2
        go_meet
        exact ⟨z, hz1, by omega, rfl, rfl⟩
      have hkk : (k : Int) < (m : Int) := by omega
      cases tm with
      | false =>
        go_wp2_with fail
        refine (withinref_is _ _ _ false HTM.out _).mono ?_
        rintro e w' ⟨rfl, rfl⟩
        go_wp2
        go_meet
        exact ⟨z, hz1, by omega, rfl, rfl⟩
      | true =>
        go_wp2_with fail
        refine (withinref_is _ _ _ true HTM.out _).mono ?_
        rintro e w' ⟨rfl, rfl⟩
        have hM := within_yes HTM.out
        have em := IntWalk.i64_in (M + 1) ⟨by omega, by omega⟩
        have a1 := Int.mul_le_mul hz2 (show M + 1 ≤ 101 by omega) (by omega) (by omega)
        have a2 := Int.mul_le_mul hz1 (show 1 ≤ M + 1 by omega) (by omega) (by omega)
        obtain ⟨y, hy⟩ : ∃ y, z * (M + 1) = y := ⟨_, rfl⟩
        rw [hy] at a1 a2
        have e1 : IntKind.i64.wrap (z * (M + 1)) = y := by rw [hy]; exact IntWalk.i64_in y ⟨by omega, by omega⟩
        have hy2 : 1 ≤ y ∧ y ≤ 20000000 := by omega
        clear hy a1 a2
        by_cases hl : 100000 < y
        · have hdl : decide ((100000 : Int) < y) = true := by simpa using hl
          go_wp2
          go_meet
          exact ⟨y, hy2.1, hy2.2, rfl, rfl⟩
        have hdl : decide ((100000 : Int) < y) = false := by simpa using hl
        go_wp2
        go_roundw
        case rel => exact ⟨k + 1, y, by omega, by go_num, rfl, hy2.1, by omega, trivial⟩
        case measure => simp [intOf]; omega
  case rest =>
  obtain ⟨z, hz1, hz2, rfl, rfl⟩ := hcut
  go_upto_region 11 with fail
  go_cut [59] from 54 to 59 (fun b wx => ∃ bb, b = .bool bb ∧ w2 = wx)
  case first =>
    by_cases h7 : 7000 < z
    · have hda : decide (7000 < z) = true := by simpa using h7
      go_wp2
      go_meet
      exact ⟨_, rfl, rfl⟩
    · have hda : decide (7000 < z) = false := by simpa using h7
      go_wp2
      go_meet
      exact ⟨_, rfl, rfl⟩
  case rest =>
  obtain ⟨bb, rfl, rfl⟩ := hcut
  cases bb
  rotate_left
  · go_wp2
    go_ret
    exact ⟨rfl, by repeat' (first | exact Below.refl _ _ | exact HB2.out | refine below_drewN ?_ _ | refine Below.drew ?_ | refine Below.alloc ?_ (by first | omega | (simp; done) | (simp; omega) | (simp [World.setCell]; omega)) _ | refine Below.setCell ?_ (by first | omega | (simp; done) | (simp; omega)) _ | assumption)⟩
  go_wp2
  go_loopw [9] (fun x wr => ∃ k : Nat, k ≤ m ∧ x = .int .i64 k ∧ (∀ r ∈ t.take k, r.n ≤ 1000) ∧ w2 = wr) (fun x _ => m - (intOf x).toNat)
  case atStart => exact ⟨0, by omega, rfl, by simp, rfl⟩
  case round =>
  obtain ⟨k, hk, rfl, hrn, rfl⟩ := hrel
  have HRN0 := Lib.hid hrn
  clear hrn
  by_cases hlt : k < m
  · have hkk : (k : Int) < (m : Int) := by omega
    obtain ⟨zb, zo, r, hBe, hzb, gr, cr, hrc, hrl, hrr⟩ := (HY.out.below HB2.out).at_ hlt
    subst hBe
    obtain ⟨rA, rn, rc, rx⟩ := r
    simp only at cr hrc hrl hrr
    by_cases h45 : 45 < rn
    · have hdr : decide ((45 : Int) < (rn : Int)) = true := by simp; omega
      clear gr hrr
      go_wp2
      go_ret
      exact ⟨rfl, by repeat' (first | exact Below.refl _ _ | exact HB2.out | refine below_drewN ?_ _ | refine Below.drew ?_ | refine Below.alloc ?_ (by first | omega | (simp; done) | (simp; omega) | (simp [World.setCell]; omega)) _ | refine Below.setCell ?_ (by first | omega | (simp; done) | (simp; omega)) _ | assumption)⟩
    have hdr : decide ((45 : Int) < (rn : Int)) = false := by simp; omega
    have HNX := Lib.hid (show ∀ r ∈ t.take (k + 1), r.n ≤ 1000 from fun r hr => by
      rw [List.take_add_one, gr] at hr
      rcases List.mem_append.1 hr with h1 | h1
      · exact HRN0.out r h1
      · obtain rfl : r = ⟨rA, rn, rc, rx⟩ := by simpa using h1
        show rn ≤ 1000
        omega)
    clear gr hrr
    go_wp2
    go_roundw
    case rel => exact ⟨k + 1, by omega, by go_num, HNX.out, trivial⟩
    case measure => simp [intOf]; omega
  obtain rfl : m = k := by omega
  have HRN := Lib.hid (show ∀ r ∈ t, r.n ≤ 1000 from fun r hr => HRN0.out r (by rw [List.take_of_length_le (by rw [← HTL.out, List.length_map]; exact Nat.le_refl _)]; exact hr))
  obtain ⟨E, hE⟩ : ∃ E, fewErr h v (t.map (·.xs)) M T = E := ⟨_, rfl⟩
  have HE := Lib.hid hE
  have hx := (HX.out.below HB2.out).more HB2.out.size
  have hv := (HV.out.below HB2.out).more HB2.out.size
  have hy := (HY.out.below HB2.out).more HB2.out.size
  have R0_2 := Lib.hid hx
  clear hx
  have R1_2 := Lib.hid hv
  clear hv
  have R2_2 := Lib.hid hy
  clear hy
  have e1 : (E != E) = false := by simp
  clear hE
  by_cases h0 : E = 0
  rotate_left
  · have e3 : (E != 0) = true := by simpa using h0
    have HC69 := Lib.hid (show ∀ (w' : World) (A2 A3 A4 : Option Addr) (c2 c3 c4 : Nat) (ts : List TRow), Reads w' w'.heap.size 1 A2 n (h.map (.int .i64)) → Reads w' w'.heap.size 1 A3 nv (v.map (.int .i64)) → (ts.map TRow.xs = t.map (·.xs) ∧ ReadsT w' w'.heap.size A4 m ts) → Calls Try.prog 69 #[.slice A2 n c2, .slice A3 nv c3, .agg #[.slice A4 m c4, .int .i64 M, .int .i64 T]] w' (fun e w'' => e = .returned (.tuple #[.slice none 0 0, .int .i64 E]) ∧ Below w'.heap.size w' w'') from fun w' A2 A3 A4 c2 c3 c4 ts r1 r2 r3 => (fewest_is (E := E) (by rw [show ts.map (·.xs) = t.map (·.xs) from r3.1]; exact HE.out) (by omega) (by omega) (by omega) r1 r2 r3.2).mono fun e w'' hp => FewPost.err hp h0)
    have HC70 := Lib.hid (show ∀ w' : World, Reads w' w'.heap.size 1 A n (h.map (.int .i64)) → Reads w' w'.heap.size 1 V nv (v.map (.int .i64)) → ReadsT w' w'.heap.size B m t → Calls Try.prog 70 #[.slice A n c, .slice V nv cv, .agg #[.slice B m d, .int .i64 M, .int .i64 T]] w' (fun e w'' => e = .returned (.tuple #[.slice none 0 0, .int .i64 E]) ∧ Below w'.heap.size w' w'') from fun w' r1 r2 r3 => (rfew_is A V B n c nv cv m d h v t M T E HE.out (by omega) (by omega) (by omega) w' r1 r2 r3).mono fun e w'' hp => FewPost.err hp h0)
    clear h0
    go_wp2
    refine Fx.regionM (fun W g f w' => Kt (PfFF n nv m h v (t.map (·.xs)) []) W g w') (fun i (x : (Option Addr × Nat) × List TRow) => if i = 1 then .slice x.1.1 n x.1.2 else if i = 3 then .slice x.1.1 nv x.1.2 else if i = 6 then .slice x.1.1 m x.1.2 else .tuple #[.slice x.1.1 m x.1.2, .int .i64 0]) (by kernel_rfl) ?_ ?_
    · intro f hf0
      exact Kt.start
    first
    | (refine Fx.WM.skip 0 (by rfl) (by kernel_rfl) (by kernel_rfl) (by kernel_rfl) (by rfl) (fun g f w h => h) ?_; simp only [Act.put, List.setIfInBounds_toArray, List.set_cons_zero, List.set_cons_succ])
    | (refine Fx.WM.val_ 0 ?_ (by rfl) (by kernel_rfl) (by kernel_rfl) (by kernel_rfl) (by rfl) ?_ (fun g f w h => h) ?_
       rotate_left
       · intro g f w' hx hD hk
         obtain hkp := id hD
         clear hx hk hD hkp
         go_simp
         try rfl
       simp only [Act.put, List.setIfInBounds_toArray, List.set_cons_zero, List.set_cons_succ])
    first
    | (refine Fx.WM.skip 2 (by rfl) (by kernel_rfl) (by kernel_rfl) (by kernel_rfl) (by rfl) (fun g f w h => h) ?_; simp only [Act.put, List.setIfInBounds_toArray, List.set_cons_zero, List.set_cons_succ])
    | (refine Fx.WM.val_ 2 ?_ (by rfl) (by kernel_rfl) (by kernel_rfl) (by kernel_rfl) (by rfl) ?_ (fun g f w h => h) ?_
       rotate_left
       · intro g f w' hx hD hk
         obtain hkp := id hD
         clear hx hk hD hkp
         go_simp
         try rfl
       simp only [Act.put, List.setIfInBounds_toArray, List.set_cons_zero, List.set_cons_succ])
    first
    | (refine Fx.WM.skip 4 (by rfl) (by kernel_rfl) (by kernel_rfl) (by kernel_rfl) (by rfl) (fun g f w h => h) ?_; simp only [Act.put, List.setIfInBounds_toArray, List.set_cons_zero, List.set_cons_succ])
    | (refine Fx.WM.val_ 4 ?_ (by rfl) (by kernel_rfl) (by kernel_rfl) (by kernel_rfl) (by rfl) ?_ (fun g f w h => h) ?_
       rotate_left
       · intro g f w' hx hD hk
         obtain hkp := id hD
         have y0_0 := (K0_2.out.below hkp.bel l0_2).cell 0
         have y0_1 := (K0_2.out.below hkp.bel l0_2).cell 1
         have y0_2 := (K0_2.out.below hkp.bel l0_2).cell 2
         clear hx hk hD hkp
         go_simp
         try rfl
       simp only [Act.put, List.setIfInBounds_toArray, List.set_cons_zero, List.set_cons_succ])
    first
    | (refine Fx.WM.skip 5 (by rfl) (by kernel_rfl) (by kernel_rfl) (by kernel_rfl) (by rfl) (fun g f w h => h) ?_; simp only [Act.put, List.setIfInBounds_toArray, List.set_cons_zero, List.set_cons_succ])
    | (refine Fx.WM.val_ 5 ?_ (by rfl) (by kernel_rfl) (by kernel_rfl) (by kernel_rfl) (by rfl) ?_ (fun g f w h => h) ?_
       rotate_left
       · intro g f w' hx hD hk
         obtain hkp := id hD
         have y0_0 := (K0_2.out.below hkp.bel l0_2).cell 0
         have y0_1 := (K0_2.out.below hkp.bel l0_2).cell 1
         have y0_2 := (K0_2.out.below hkp.bel l0_2).cell 2
         clear hx hk hD hkp
         go_simp
         try rfl
       simp only [Act.put, List.setIfInBounds_toArray, List.set_cons_zero, List.set_cons_succ])
    first
    | (refine Fx.WM.skip 7 (by rfl) (by kernel_rfl) (by kernel_rfl) (by kernel_rfl) (by rfl) (fun g f w h => h) ?_; simp only [Act.put, List.setIfInBounds_toArray, List.set_cons_zero, List.set_cons_succ])
    | (refine Fx.WM.val_ 7 ?_ (by rfl) (by kernel_rfl) (by kernel_rfl) (by kernel_rfl) (by rfl) ?_ (fun g f w h => h) ?_
       rotate_left
       · intro g f w' hx hD hk
         obtain hkp := id hD
         have y0_0 := (K0_2.out.below hkp.bel l0_2).cell 0
         have y0_1 := (K0_2.out.below hkp.bel l0_2).cell 1
         have y0_2 := (K0_2.out.below hkp.bel l0_2).cell 2
         clear hx hk hD hkp
         go_simp
         try rfl
       simp only [Act.put, List.setIfInBounds_toArray, List.set_cons_zero, List.set_cons_succ])
    first
    | (refine Fx.WM.skip 8 (by rfl) (by kernel_rfl) (by kernel_rfl) (by kernel_rfl) (by rfl) (fun g f w h => h) ?_; simp only [Act.put, List.setIfInBounds_toArray, List.set_cons_zero, List.set_cons_succ])
    | (refine Fx.WM.val_ 8 ?_ (by rfl) (by kernel_rfl) (by kernel_rfl) (by kernel_rfl) (by rfl) ?_ (fun g f w h => h) ?_
       rotate_left
       · intro g f w' hx hD hk
         obtain hkp := id hD
         have y0_0 := (K0_2.out.below hkp.bel l0_2).cell 0
         have y0_1 := (K0_2.out.below hkp.bel l0_2).cell 1
         have y0_2 := (K0_2.out.below hkp.bel l0_2).cell 2
         clear hx hk hD hkp
         go_simp
         try rfl
       simp only [Act.put, List.setIfInBounds_toArray, List.set_cons_zero, List.set_cons_succ])
    first
    | (refine Fx.WM.skip 9 (by rfl) (by kernel_rfl) (by kernel_rfl) (by kernel_rfl) (by rfl) (fun g f w h => h) ?_; simp only [Act.put, List.setIfInBounds_toArray, List.set_cons_zero, List.set_cons_succ])
    | (refine Fx.WM.val_ 9 ?_ (by rfl) (by kernel_rfl) (by kernel_rfl) (by kernel_rfl) (by rfl) ?_ (fun g f w h => h) ?_
       rotate_left
       · intro g f w' hx hD hk
         obtain hkp := id hD
         have y0_0 := (K0_2.out.below hkp.bel l0_2).cell 0
         have y0_1 := (K0_2.out.below hkp.bel l0_2).cell 1
         have y0_2 := (K0_2.out.below hkp.bel l0_2).cell 2
         clear hx hk hD hkp
         go_simp
         try rfl
       simp only [Act.put, List.setIfInBounds_toArray, List.set_cons_zero, List.set_cons_succ])
    first
    | (refine Fx.WM.skip 10 (by rfl) (by kernel_rfl) (by kernel_rfl) (by kernel_rfl) (by rfl) (fun g f w h => h) ?_; simp only [Act.put, List.setIfInBounds_toArray, List.set_cons_zero, List.set_cons_succ])
    | (refine Fx.WM.val_ 10 ?_ (by rfl) (by kernel_rfl) (by kernel_rfl) (by kernel_rfl) (by rfl) ?_ (fun g f w h => h) ?_
       rotate_left
       · intro g f w' hx hD hk
         obtain hkp := id hD
         have y0_0 := (K0_2.out.below hkp.bel l0_2).cell 0
         have y0_1 := (K0_2.out.below hkp.bel l0_2).cell 1
         have y0_2 := (K0_2.out.below hkp.bel l0_2).cell 2
         clear hx hk hD hkp
         go_simp
         try rfl
       simp only [Act.put, List.setIfInBounds_toArray, List.set_cons_zero, List.set_cons_succ])
    refine Fx.WM.choose 1 (by rfl) (by kernel_rfl) (by rfl) ?_ ?_
    · skip
      refine Fx.Chooses.call ?_ ?_ (by rfl) ?_ ?_
      rotate_left 2
      · intro w'
        go_simp
        refine ⟨?_, ?_⟩ <;> rfl
      · intro f w' hD hk
        exact (copyJ_any A n c h w' ((R0_2.out.below hD.bel).more hD.bel.size) (by omega)).mono fun e w'' ⟨A', c', he, hb, hr⟩ => ⟨((A', c'), []), he, hD.choose PfFF.stb hb 1 _ ⟨fun _ => hr, fun e => absurd e (by decide), fun e => absurd e (by decide), fun e => absurd e (by decide)⟩⟩
    intro x1
    simp only [Act.put, List.setIfInBounds_toArray, List.set_cons_zero, List.set_cons_succ]
    refine Fx.WM.choose 3 (by rfl) (by kernel_rfl) (by rfl) ?_ ?_
    · skip
      refine Fx.Chooses.call ?_ ?_ (by rfl) ?_ ?_
      rotate_left 2
      · intro w'
        go_simp
        refine ⟨?_, ?_⟩ <;> rfl
      · intro f w' hD hk
        exact (copyJ_any V nv cv v w' ((R1_2.out.below hD.bel).more hD.bel.size) (by omega)).mono fun e w'' ⟨A', c', he, hb, hr⟩ => ⟨((A', c'), []), he, hD.choose PfFF.stb hb 3 _ ⟨fun e => absurd e (by decide), fun _ => hr, fun e => absurd e (by decide), fun e => absurd e (by decide)⟩⟩
    intro x3
    simp only [Act.put, List.setIfInBounds_toArray, List.set_cons_zero, List.set_cons_succ]
    refine Fx.WM.choose 6 (by rfl) (by kernel_rfl) (by rfl) ?_ ?_
    · skip
      refine Fx.Chooses.call ?_ ?_ (by rfl) ?_ ?_
      rotate_left 2
      · intro w'
        go_simp
        refine ⟨?_, ?_⟩ <;> rfl
      · intro f w' hD hk
        exact (copyT_any B m d t w' ((R2_2.out.below hD.bel).more hD.bel.size) (by omega) HRN.out).mono fun e w'' ⟨A', c', ts', he, hb, hts, hr⟩ => ⟨((A', c'), ts'), he, hD.choose PfFF.stb hb 6 _ ⟨fun e => absurd e (by decide), fun e => absurd e (by decide), fun _ => ⟨hts, hr⟩, fun e => absurd e (by decide)⟩⟩
    intro x6
    simp only [Act.put, List.setIfInBounds_toArray, List.set_cons_zero, List.set_cons_succ]
    first
    | (refine Fx.WM.skip 11 (by rfl) (by kernel_rfl) (by kernel_rfl) (by kernel_rfl) (by rfl) (fun g f w h => h) ?_; simp only [Act.put, List.setIfInBounds_toArray, List.set_cons_zero, List.set_cons_succ])
    | (refine Fx.WM.val_ 11 ?_ (by rfl) (by kernel_rfl) (by kernel_rfl) (by kernel_rfl) (by rfl) ?_ (fun g f w h => h) ?_
       rotate_left
       · intro g f w' hx hD hk
         obtain hkp := id hD
         clear hx hk hD hkp
         go_simp
         try rfl
       simp only [Act.put, List.setIfInBounds_toArray, List.set_cons_zero, List.set_cons_succ])
    refine Fx.WM.call 12 (.tuple #[.slice none 0 0, .int .i64 E]) ?_ ?_ (by rfl) (by kernel_rfl) (by kernel_rfl) (by kernel_rfl) (by rfl) ?_ ?_ ?_
    rotate_left 2
    · intro w'
      go_simp
      refine ⟨?_, ?_⟩ <;> rfl
    · intro g f w' hx hD hk
      exact (HC69.out w' _ _ _ _ _ _ _ ((hD.has 1 x1 (hx 1 _ (by rfl))).1 rfl) ((hD.has 3 x3 (hx 3 _ (by rfl))).2.1 rfl) ((hD.has 6 x6 (hx 6 _ (by rfl))).2.2.1 rfl)).mono fun e w'' ⟨he, hw⟩ => ⟨he, hD.call PfFF.stb hw⟩
    simp only [Act.put, List.setIfInBounds_toArray, List.set_cons_zero, List.set_cons_succ]
    first
    | (refine Fx.WM.skip 13 (by rfl) (by kernel_rfl) (by kernel_rfl) (by kernel_rfl) (by rfl) (fun g f w h => h) ?_; simp only [Act.put, List.setIfInBounds_toArray, List.set_cons_zero, List.set_cons_succ])
    | (refine Fx.WM.val_ 13 ?_ (by rfl) (by kernel_rfl) (by kernel_rfl) (by kernel_rfl) (by rfl) ?_ (fun g f w h => h) ?_
       rotate_left
       · intro g f w' hx hD hk
         obtain hkp := id hD
         clear hx hk hD hkp
         go_simp
         try rfl
       simp only [Act.put, List.setIfInBounds_toArray, List.set_cons_zero, List.set_cons_succ])
    first
    | (refine Fx.WM.skip 14 (by rfl) (by kernel_rfl) (by kernel_rfl) (by kernel_rfl) (by rfl) (fun g f w h => h) ?_; simp only [Act.put, List.setIfInBounds_toArray, List.set_cons_zero, List.set_cons_succ])
    | (refine Fx.WM.val_ 14 ?_ (by rfl) (by kernel_rfl) (by kernel_rfl) (by kernel_rfl) (by rfl) ?_ (fun g f w h => h) ?_
       rotate_left
       · intro g f w' hx hD hk
         obtain hkp := id hD
         clear hx hk hD hkp
         go_simp
         try rfl
       simp only [Act.put, List.setIfInBounds_toArray, List.set_cons_zero, List.set_cons_succ])
    first
    | (refine Fx.WM.skip 15 (by rfl) (by kernel_rfl) (by kernel_rfl) (by kernel_rfl) (by rfl) (fun g f w h => h) ?_; simp only [Act.put, List.setIfInBounds_toArray, List.set_cons_zero, List.set_cons_succ])
    | (refine Fx.WM.val_ 15 ?_ (by rfl) (by kernel_rfl) (by kernel_rfl) (by kernel_rfl) (by rfl) ?_ (fun g f w h => h) ?_
       rotate_left
       · intro g f w' hx hD hk
         obtain hkp := id hD
         clear hx hk hD hkp
         go_simp
         try rfl
       simp only [Act.put, List.setIfInBounds_toArray, List.set_cons_zero, List.set_cons_succ])
    first
    | (refine Fx.WM.skip 16 (by rfl) (by kernel_rfl) (by kernel_rfl) (by kernel_rfl) (by rfl) (fun g f w h => h) ?_; simp only [Act.put, List.setIfInBounds_toArray, List.set_cons_zero, List.set_cons_succ])
    | (refine Fx.WM.val_ 16 ?_ (by rfl) (by kernel_rfl) (by kernel_rfl) (by kernel_rfl) (by rfl) ?_ (fun g f w h => h) ?_
       rotate_left
       · intro g f w' hx hD hk
         obtain hkp := id hD
         clear hx hk hD hkp
         go_simp
         try rfl
       simp only [Act.put, List.setIfInBounds_toArray, List.set_cons_zero, List.set_cons_succ])
    first
    | (refine Fx.WM.skip 17 (by rfl) (by kernel_rfl) (by kernel_rfl) (by kernel_rfl) (by rfl) (fun g f w h => h) ?_; simp only [Act.put, List.setIfInBounds_toArray, List.set_cons_zero, List.set_cons_succ])
    | (refine Fx.WM.val_ 17 ?_ (by rfl) (by kernel_rfl) (by kernel_rfl) (by kernel_rfl) (by rfl) ?_ (fun g f w h => h) ?_
       rotate_left
       · intro g f w' hx hD hk
         obtain hkp := id hD
         clear hx hk hD hkp
         go_simp
         try rfl
       simp only [Act.put, List.setIfInBounds_toArray, List.set_cons_zero, List.set_cons_succ])
    refine Fx.WM.nil (by kernel_rfl) ?_
    intro wz hkp
    have hb := hkp.bel
    clear hkp
    obtain ⟨w3, hnm⟩ : ∃ z : World, z = wz := ⟨_, rfl⟩
    subst hnm
    have HB3 := Lib.hid (show Below w.heap.size w w3 from step_below hb (by repeat' (first | exact Below.refl _ _ | exact HB2.out | refine below_drewN ?_ _ | refine Below.drew ?_ | refine Below.alloc ?_ (by first | omega | (simp; done) | (simp; omega) | (simp [World.setCell]; omega)) _ | refine Below.setCell ?_ (by first | omega | (simp; done) | (simp; omega)) _ | assumption)))
    have K0_3 := Lib.hid (step_blk hb (show Blk _ (w.heap.size) 107 #[.slice B m d, .int .i64 (M), .int .i64 (T)] by repeat' (first | exact K0_2.out | exact Blk.at_ _ (by first | rfl | (simp; done) | (simp; omega)) _ _ | refine Blk.drewN ?_ _ | refine Blk.drew ?_ | refine Blk.alloc ?_ _ | refine Blk.far ?_ (by first | omega | (simp; done) | (simp; omega)) _ | assumption)))
    have hL3 := Lib.hid (show Below w2.heap.size w2 _ from reads_mid hb (by repeat' (first | exact Below.refl _ _ | refine below_drewN ?_ _ | refine Below.drew ?_ | refine Below.alloc ?_ (by first | omega | (simp; done) | (simp; omega) | (simp [World.setCell]; omega)) _ | refine Below.setCell ?_ (by first | omega | (simp; done) | (simp; omega)) _)))
    have R0_3 := Lib.hid (reads_lay hb hL3.out R0_2.out)
    have R1_3 := Lib.hid (reads_lay hb hL3.out R1_2.out)
    have R2_3 := Lib.hid (readsT_lay hb hL3.out R2_2.out)
    clear hL3 R0_2 R1_2 R2_2
    have hz3 := hb.size
    try simp only [World.size_alloc, World.drewN, World.drew] at hz3
    clear hb K0_2 z0_0_2 z0_1_2 z0_2_2 l0_2
    have l0_3 : w.heap.size < w3.heap.size := K0_3.out.lt
    have z0_0_3 : w3.cell? ⟨w.heap.size, 0, none⟩ = some (.slice B m d) := K0_3.out.cell 0
    have z0_1_3 : w3.cell? ⟨w.heap.size, 1, none⟩ = some (.int .i64 (M)) := K0_3.out.cell 1
    have z0_2_3 : w3.cell? ⟨w.heap.size, 2, none⟩ = some (.int .i64 (T)) := K0_3.out.cell 2
    go_wp2_with fail
    refine (HC70.out _ R0_3.out R1_3.out R2_3.out).mono ?_
    rintro e w4 ⟨rfl, hb⟩
    have HB4 := Lib.hid (show Below w.heap.size w w4 from step_below hb (by repeat' (first | exact Below.refl _ _ | exact HB3.out | refine below_drewN ?_ _ | refine Below.drew ?_ | refine Below.alloc ?_ (by first | omega | (simp; done) | (simp; omega) | (simp [World.setCell]; omega)) _ | refine Below.setCell ?_ (by first | omega | (simp; done) | (simp; omega)) _ | assumption)))
    have K0_4 := Lib.hid (step_blk hb (show Blk _ (w.heap.size) 107 #[.slice B m d, .int .i64 (M), .int .i64 (T)] by repeat' (first | exact K0_3.out | exact Blk.at_ _ (by first | rfl | (simp; done) | (simp; omega)) _ _ | refine Blk.drewN ?_ _ | refine Blk.drew ?_ | refine Blk.alloc ?_ _ | refine Blk.far ?_ (by first | omega | (simp; done) | (simp; omega)) _ | assumption)))
    have hL4 := Lib.hid (show Below w3.heap.size w3 _ from reads_mid hb (by repeat' (first | exact Below.refl _ _ | refine below_drewN ?_ _ | refine Below.drew ?_ | refine Below.alloc ?_ (by first | omega | (simp; done) | (simp; omega) | (simp [World.setCell]; omega)) _ | refine Below.setCell ?_ (by first | omega | (simp; done) | (simp; omega)) _)))
    have R0_4 := Lib.hid (reads_lay hb hL4.out R0_3.out)
    have R1_4 := Lib.hid (reads_lay hb hL4.out R1_3.out)
    have R2_4 := Lib.hid (readsT_lay hb hL4.out R2_3.out)
    clear hL4 R0_3 R1_3 R2_3
    have hz4 := hb.size
    try simp only [World.size_alloc, World.drewN, World.drew] at hz4
    clear hb K0_3 z0_0_3 z0_1_3 z0_2_3 l0_3
    have l0_4 : w.heap.size < w4.heap.size := K0_4.out.lt
    have z0_0_4 : w4.cell? ⟨w.heap.size, 0, none⟩ = some (.slice B m d) := K0_4.out.cell 0
    have z0_1_4 : w4.cell? ⟨w.heap.size, 1, none⟩ = some (.int .i64 (M)) := K0_4.out.cell 1
    have z0_2_4 : w4.cell? ⟨w.heap.size, 2, none⟩ = some (.int .i64 (T)) := K0_4.out.cell 2
    clear R0_4 R1_4 R2_4
    go_wp2_with fail
    refine (ints_nil7 _).mono ?_
    rintro e w5 ⟨rfl, hb⟩
    have HB5 := Lib.hid (show Below w.heap.size w w5 from step_below hb (by repeat' (first | exact Below.refl _ _ | exact HB4.out | refine below_drewN ?_ _ | refine Below.drew ?_ | refine Below.alloc ?_ (by first | omega | (simp; done) | (simp; omega) | (simp [World.setCell]; omega)) _ | refine Below.setCell ?_ (by first | omega | (simp; done) | (simp; omega)) _ | assumption)))
    have K0_5 := Lib.hid (step_blk hb (show Blk _ (w.heap.size) 107 #[.slice B m d, .int .i64 (M), .int .i64 (T)] by repeat' (first | exact K0_4.out | exact Blk.at_ _ (by first | rfl | (simp; done) | (simp; omega)) _ _ | refine Blk.drewN ?_ _ | refine Blk.drew ?_ | refine Blk.alloc ?_ _ | refine Blk.far ?_ (by first | omega | (simp; done) | (simp; omega)) _ | assumption)))
    have hL5 := Lib.hid (show Below w4.heap.size w4 _ from reads_mid hb (by repeat' (first | exact Below.refl _ _ | refine below_drewN ?_ _ | refine Below.drew ?_ | refine Below.alloc ?_ (by first | omega | (simp; done) | (simp; omega) | (simp [World.setCell]; omega)) _ | refine Below.setCell ?_ (by first | omega | (simp; done) | (simp; omega)) _)))
    clear hL5 
    have hz5 := hb.size
    try simp only [World.size_alloc, World.drewN, World.drew] at hz5
    clear hb K0_4 z0_0_4 z0_1_4 z0_2_4 l0_4
    have l0_5 : w.heap.size < w5.heap.size := K0_5.out.lt
    have z0_0_5 : w5.cell? ⟨w.heap.size, 0, none⟩ = some (.slice B m d) := K0_5.out.cell 0
    have z0_1_5 : w5.cell? ⟨w.heap.size, 1, none⟩ = some (.int .i64 (M)) := K0_5.out.cell 1
    have z0_2_5 : w5.cell? ⟨w.heap.size, 2, none⟩ = some (.int .i64 (T)) := K0_5.out.cell 2
    go_wp2
    go_ret
    exact ⟨rfl, by repeat' (first | exact Below.refl _ _ | exact HB5.out | refine below_drewN ?_ _ | refine Below.drew ?_ | refine Below.alloc ?_ (by first | omega | (simp; done) | (simp; omega) | (simp [World.setCell]; omega)) _ | refine Below.setCell ?_ (by first | omega | (simp; done) | (simp; omega)) _ | assumption)⟩
  subst h0
  obtain ⟨hz1, hz2, i, hi⟩ := few_zero HE.out
  rw [HL.out] at hz2
  obtain ⟨hm16, hwk, hM, hT, -⟩ := kind_ok hz2
  rw [HTL.out] at hm16
  have hvn : nv = n := by
    have h1 := (two_ok hz1).2.1
    have h2 := R1_2.out.1
    rw [List.length_map] at h2
    rw [HL.out] at h1
    omega
  obtain rfl : n = nv := hvn.symm
  have hfit := (bestK_fits hi).2
  rw [HTL.out] at hfit
  have HI := Lib.hid hi
  obtain ⟨ls, hls⟩ : ∃ ls, lst (M + 1).toNat m i = ls := ⟨_, rfl⟩
  have hlsl : ls.length = m := by rw [← hls]; exact lst_len _ _ _
  have HLB := Lib.hid (show ∀ z ∈ ls, 0 ≤ z ∧ z ≤ 100 from fun z hz => by
    rw [← hls] at hz
    unfold lst tabL at hz
    obtain ⟨q, hq, rfl⟩ := List.mem_map.1 hz
    have := dg_lt (B := (M + 1).toNat) (e := m - 1 - q) (j := i) (by omega)
    omega)
  rw [hls] at hfit
  have HFIT := Lib.hid hfit
  have HLS := Lib.hid hls
  have HLL := Lib.hid hlsl
  have HZ1 := Lib.hid hz1
  have HWK := Lib.hid hwk
  have HC69 := Lib.hid (show ∀ (w' : World) (A2 A3 A4 : Option Addr) (c2 c3 c4 : Nat) (ts : List TRow), Reads w' w'.heap.size 1 A2 n (h.map (.int .i64)) → Reads w' w'.heap.size 1 A3 n (v.map (.int .i64)) → (ts.map TRow.xs = t.map (·.xs) ∧ ReadsT w' w'.heap.size A4 m ts) → Calls Try.prog 69 #[.slice A2 n c2, .slice A3 n c3, .agg #[.slice A4 m c4, .int .i64 M, .int .i64 T]] w' (fun e w'' => ∃ A' c', e = .returned (.tuple #[.slice A' m c', .int .i64 0]) ∧ Below w'.heap.size w' w'' ∧ Reads w'' w''.heap.size 1 A' m (ls.map (.int .i64))) from fun w' A2 A3 A4 c2 c3 c4 ts r1 r2 r3 => (fewest_is (E := 0) (by rw [show ts.map (·.xs) = t.map (·.xs) from r3.1]; exact HE.out) (by omega) (by omega) (by omega) r1 r2 r3.2).mono fun e w'' hp => by
      have h1 := FewPost.fine hp (i := i) (by rw [show ts.map (·.xs) = t.map (·.xs) from r3.1]; exact HI.out)
      rw [HLS.out] at h1
      exact h1)
  have HC70 := Lib.hid (show ∀ w' : World, Reads w' w'.heap.size 1 A n (h.map (.int .i64)) → Reads w' w'.heap.size 1 V n (v.map (.int .i64)) → ReadsT w' w'.heap.size B m t → Calls Try.prog 70 #[.slice A n c, .slice V n cv, .agg #[.slice B m d, .int .i64 M, .int .i64 T]] w' (fun e w'' => ∃ A' c', e = .returned (.tuple #[.slice A' m c', .int .i64 0]) ∧ Below w'.heap.size w' w'' ∧ Reads w'' w''.heap.size 1 A' m (ls.map (.int .i64))) from fun w' r1 r2 r3 => (rfew_is A V B n c n cv m d h v t M T 0 HE.out (by omega) (by omega) (by omega) w' r1 r2 r3).mono fun e w'' hp => by
      have h1 := FewPost.fine hp (i := i) HI.out
      rw [HLS.out] at h1
      exact h1)
  clear hz1 hz2 hwk hfit hi hls hlsl hvn hM hT
  go_wp2
  refine Fx.regionM (fun W g f w' => Kt (PfFF n n m h v (t.map (·.xs)) ls) W g w') (fun i (x : (Option Addr × Nat) × List TRow) => if i = 1 then .slice x.1.1 n x.1.2 else if i = 3 then .slice x.1.1 n x.1.2 else if i = 6 then .slice x.1.1 m x.1.2 else .tuple #[.slice x.1.1 m x.1.2, .int .i64 0]) (by kernel_rfl) ?_ ?_
  · intro f hf0
    exact Kt.start
  first
  | (refine Fx.WM.skip 0 (by rfl) (by kernel_rfl) (by kernel_rfl) (by kernel_rfl) (by rfl) (fun g f w h => h) ?_; simp only [Act.put, List.setIfInBounds_toArray, List.set_cons_zero, List.set_cons_succ])
  | (refine Fx.WM.val_ 0 ?_ (by rfl) (by kernel_rfl) (by kernel_rfl) (by kernel_rfl) (by rfl) ?_ (fun g f w h => h) ?_
     rotate_left
     · intro g f w' hx hD hk
       obtain hkp := id hD
       clear hx hk hD hkp
       go_simp
       try rfl
     simp only [Act.put, List.setIfInBounds_toArray, List.set_cons_zero, List.set_cons_succ])
  first
  | (refine Fx.WM.skip 2 (by rfl) (by kernel_rfl) (by kernel_rfl) (by kernel_rfl) (by rfl) (fun g f w h => h) ?_; simp only [Act.put, List.setIfInBounds_toArray, List.set_cons_zero, List.set_cons_succ])
  | (refine Fx.WM.val_ 2 ?_ (by rfl) (by kernel_rfl) (by kernel_rfl) (by kernel_rfl) (by rfl) ?_ (fun g f w h => h) ?_
     rotate_left
     · intro g f w' hx hD hk
       obtain hkp := id hD
       clear hx hk hD hkp
       go_simp
       try rfl
     simp only [Act.put, List.setIfInBounds_toArray, List.set_cons_zero, List.set_cons_succ])
  first
  | (refine Fx.WM.skip 4 (by rfl) (by kernel_rfl) (by kernel_rfl) (by kernel_rfl) (by rfl) (fun g f w h => h) ?_; simp only [Act.put, List.setIfInBounds_toArray, List.set_cons_zero, List.set_cons_succ])
  | (refine Fx.WM.val_ 4 ?_ (by rfl) (by kernel_rfl) (by kernel_rfl) (by kernel_rfl) (by rfl) ?_ (fun g f w h => h) ?_
     rotate_left
     · intro g f w' hx hD hk
       obtain hkp := id hD
       have y0_0 := (K0_2.out.below hkp.bel l0_2).cell 0
       have y0_1 := (K0_2.out.below hkp.bel l0_2).cell 1
       have y0_2 := (K0_2.out.below hkp.bel l0_2).cell 2
       clear hx hk hD hkp
       go_simp
       try rfl
     simp only [Act.put, List.setIfInBounds_toArray, List.set_cons_zero, List.set_cons_succ])
  first
  | (refine Fx.WM.skip 5 (by rfl) (by kernel_rfl) (by kernel_rfl) (by kernel_rfl) (by rfl) (fun g f w h => h) ?_; simp only [Act.put, List.setIfInBounds_toArray, List.set_cons_zero, List.set_cons_succ])
  | (refine Fx.WM.val_ 5 ?_ (by rfl) (by kernel_rfl) (by kernel_rfl) (by kernel_rfl) (by rfl) ?_ (fun g f w h => h) ?_
     rotate_left
     · intro g f w' hx hD hk
       obtain hkp := id hD
       have y0_0 := (K0_2.out.below hkp.bel l0_2).cell 0
       have y0_1 := (K0_2.out.below hkp.bel l0_2).cell 1
       have y0_2 := (K0_2.out.below hkp.bel l0_2).cell 2
       clear hx hk hD hkp
       go_simp
       try rfl
     simp only [Act.put, List.setIfInBounds_toArray, List.set_cons_zero, List.set_cons_succ])
  first
  | (refine Fx.WM.skip 7 (by rfl) (by kernel_rfl) (by kernel_rfl) (by kernel_rfl) (by rfl) (fun g f w h => h) ?_; simp only [Act.put, List.setIfInBounds_toArray, List.set_cons_zero, List.set_cons_succ])
  | (refine Fx.WM.val_ 7 ?_ (by rfl) (by kernel_rfl) (by kernel_rfl) (by kernel_rfl) (by rfl) ?_ (fun g f w h => h) ?_
     rotate_left
     · intro g f w' hx hD hk
       obtain hkp := id hD
       have y0_0 := (K0_2.out.below hkp.bel l0_2).cell 0
       have y0_1 := (K0_2.out.below hkp.bel l0_2).cell 1
       have y0_2 := (K0_2.out.below hkp.bel l0_2).cell 2
       clear hx hk hD hkp
       go_simp
       try rfl
     simp only [Act.put, List.setIfInBounds_toArray, List.set_cons_zero, List.set_cons_succ])
  first
  | (refine Fx.WM.skip 8 (by rfl) (by kernel_rfl) (by kernel_rfl) (by kernel_rfl) (by rfl) (fun g f w h => h) ?_; simp only [Act.put, List.setIfInBounds_toArray, List.set_cons_zero, List.set_cons_succ])
  | (refine Fx.WM.val_ 8 ?_ (by rfl) (by kernel_rfl) (by kernel_rfl) (by kernel_rfl) (by rfl) ?_ (fun g f w h => h) ?_
     rotate_left
     · intro g f w' hx hD hk
       obtain hkp := id hD
       have y0_0 := (K0_2.out.below hkp.bel l0_2).cell 0
       have y0_1 := (K0_2.out.below hkp.bel l0_2).cell 1
       have y0_2 := (K0_2.out.below hkp.bel l0_2).cell 2
       clear hx hk hD hkp
       go_simp
       try rfl
     simp only [Act.put, List.setIfInBounds_toArray, List.set_cons_zero, List.set_cons_succ])
  first
  | (refine Fx.WM.skip 9 (by rfl) (by kernel_rfl) (by kernel_rfl) (by kernel_rfl) (by rfl) (fun g f w h => h) ?_; simp only [Act.put, List.setIfInBounds_toArray, List.set_cons_zero, List.set_cons_succ])
  | (refine Fx.WM.val_ 9 ?_ (by rfl) (by kernel_rfl) (by kernel_rfl) (by kernel_rfl) (by rfl) ?_ (fun g f w h => h) ?_
     rotate_left
     · intro g f w' hx hD hk
       obtain hkp := id hD
       have y0_0 := (K0_2.out.below hkp.bel l0_2).cell 0
       have y0_1 := (K0_2.out.below hkp.bel l0_2).cell 1
       have y0_2 := (K0_2.out.below hkp.bel l0_2).cell 2
       clear hx hk hD hkp
       go_simp
       try rfl
     simp only [Act.put, List.setIfInBounds_toArray, List.set_cons_zero, List.set_cons_succ])
  first
  | (refine Fx.WM.skip 10 (by rfl) (by kernel_rfl) (by kernel_rfl) (by kernel_rfl) (by rfl) (fun g f w h => h) ?_; simp only [Act.put, List.setIfInBounds_toArray, List.set_cons_zero, List.set_cons_succ])
  | (refine Fx.WM.val_ 10 ?_ (by rfl) (by kernel_rfl) (by kernel_rfl) (by kernel_rfl) (by rfl) ?_ (fun g f w h => h) ?_
     rotate_left
     · intro g f w' hx hD hk
       obtain hkp := id hD
       have y0_0 := (K0_2.out.below hkp.bel l0_2).cell 0
       have y0_1 := (K0_2.out.below hkp.bel l0_2).cell 1
       have y0_2 := (K0_2.out.below hkp.bel l0_2).cell 2
       clear hx hk hD hkp
       go_simp
       try rfl
     simp only [Act.put, List.setIfInBounds_toArray, List.set_cons_zero, List.set_cons_succ])
  refine Fx.WM.choose 1 (by rfl) (by kernel_rfl) (by rfl) ?_ ?_
  · skip
    refine Fx.Chooses.call ?_ ?_ (by rfl) ?_ ?_
    rotate_left 2
    · intro w'
      go_simp
      refine ⟨?_, ?_⟩ <;> rfl
    · intro f w' hD hk
      exact (copyJ_any A n c h w' ((R0_2.out.below hD.bel).more hD.bel.size) (by omega)).mono fun e w'' ⟨A', c', he, hb, hr⟩ => ⟨((A', c'), []), he, hD.choose PfFF.stb hb 1 _ ⟨fun _ => hr, fun e => absurd e (by decide), fun e => absurd e (by decide), fun e => absurd e (by decide)⟩⟩
  intro x1
  simp only [Act.put, List.setIfInBounds_toArray, List.set_cons_zero, List.set_cons_succ]
  refine Fx.WM.choose 3 (by rfl) (by kernel_rfl) (by rfl) ?_ ?_
  · skip
    refine Fx.Chooses.call ?_ ?_ (by rfl) ?_ ?_
    rotate_left 2
    · intro w'
      go_simp
      refine ⟨?_, ?_⟩ <;> rfl
    · intro f w' hD hk
      exact (copyJ_any V n cv v w' ((R1_2.out.below hD.bel).more hD.bel.size) (by omega)).mono fun e w'' ⟨A', c', he, hb, hr⟩ => ⟨((A', c'), []), he, hD.choose PfFF.stb hb 3 _ ⟨fun e => absurd e (by decide), fun _ => hr, fun e => absurd e (by decide), fun e => absurd e (by decide)⟩⟩
  intro x3
  simp only [Act.put, List.setIfInBounds_toArray, List.set_cons_zero, List.set_cons_succ]
  refine Fx.WM.choose 6 (by rfl) (by kernel_rfl) (by rfl) ?_ ?_
  · skip
    refine Fx.Chooses.call ?_ ?_ (by rfl) ?_ ?_
    rotate_left 2
    · intro w'
      go_simp
      refine ⟨?_, ?_⟩ <;> rfl
    · intro f w' hD hk
      exact (copyT_any B m d t w' ((R2_2.out.below hD.bel).more hD.bel.size) (by omega) HRN.out).mono fun e w'' ⟨A', c', ts', he, hb, hts, hr⟩ => ⟨((A', c'), ts'), he, hD.choose PfFF.stb hb 6 _ ⟨fun e => absurd e (by decide), fun e => absurd e (by decide), fun _ => ⟨hts, hr⟩, fun e => absurd e (by decide)⟩⟩
  intro x6
  simp only [Act.put, List.setIfInBounds_toArray, List.set_cons_zero, List.set_cons_succ]
  first
  | (refine Fx.WM.skip 11 (by rfl) (by kernel_rfl) (by kernel_rfl) (by kernel_rfl) (by rfl) (fun g f w h => h) ?_; simp only [Act.put, List.setIfInBounds_toArray, List.set_cons_zero, List.set_cons_succ])
  | (refine Fx.WM.val_ 11 ?_ (by rfl) (by kernel_rfl) (by kernel_rfl) (by kernel_rfl) (by rfl) ?_ (fun g f w h => h) ?_
     rotate_left
     · intro g f w' hx hD hk
       obtain hkp := id hD
       clear hx hk hD hkp
       go_simp
       try rfl
     simp only [Act.put, List.setIfInBounds_toArray, List.set_cons_zero, List.set_cons_succ])
  refine Fx.WM.choose 12 (by rfl) (by kernel_rfl) (by rfl) ?_ ?_
  · skip
    refine Fx.Chooses.call ?_ ?_ (by rfl) ?_ ?_
    rotate_left 2
    · intro w'
      go_simp
      refine ⟨?_, ?_⟩ <;> rfl
    · intro f w' hD hk
      exact (HC69.out w' _ _ _ _ _ _ _ ((hD.has 1 x1 (by rfl)).1 rfl) ((hD.has 3 x3 (by rfl)).2.1 rfl) ((hD.has 6 x6 (by rfl)).2.2.1 rfl)).mono fun e w'' ⟨A', c', he, hb, hr⟩ => ⟨((A', c'), []), he, hD.choose PfFF.stb hb 12 _ ⟨fun e => absurd e (by decide), fun e => absurd e (by decide), fun e => absurd e (by decide), fun _ => hr⟩⟩
  intro x12
  simp only [Act.put, List.setIfInBounds_toArray, List.set_cons_zero, List.set_cons_succ]
  first
  | (refine Fx.WM.skip 13 (by rfl) (by kernel_rfl) (by kernel_rfl) (by kernel_rfl) (by rfl) (fun g f w h => h) ?_; simp only [Act.put, List.setIfInBounds_toArray, List.set_cons_zero, List.set_cons_succ])
  | (refine Fx.WM.val_ 13 ?_ (by rfl) (by kernel_rfl) (by kernel_rfl) (by kernel_rfl) (by rfl) ?_ (fun g f w h => h) ?_
     rotate_left
     · intro g f w' hx hD hk
       obtain hkp := id hD
       clear hx hk hD hkp
       go_simp
       try rfl
     simp only [Act.put, List.setIfInBounds_toArray, List.set_cons_zero, List.set_cons_succ])
  first
  | (refine Fx.WM.skip 14 (by rfl) (by kernel_rfl) (by kernel_rfl) (by kernel_rfl) (by rfl) (fun g f w h => h) ?_; simp only [Act.put, List.setIfInBounds_toArray, List.set_cons_zero, List.set_cons_succ])
  | (refine Fx.WM.val_ 14 ?_ (by rfl) (by kernel_rfl) (by kernel_rfl) (by kernel_rfl) (by rfl) ?_ (fun g f w h => h) ?_
     rotate_left
     · intro g f w' hx hD hk
       obtain hkp := id hD
       clear hx hk hD hkp
       go_simp
       try rfl
     simp only [Act.put, List.setIfInBounds_toArray, List.set_cons_zero, List.set_cons_succ])
  first
  | (refine Fx.WM.skip 15 (by rfl) (by kernel_rfl) (by kernel_rfl) (by kernel_rfl) (by rfl) (fun g f w h => h) ?_; simp only [Act.put, List.setIfInBounds_toArray, List.set_cons_zero, List.set_cons_succ])
  | (refine Fx.WM.val_ 15 ?_ (by rfl) (by kernel_rfl) (by kernel_rfl) (by kernel_rfl) (by rfl) ?_ (fun g f w h => h) ?_
     rotate_left
     · intro g f w' hx hD hk
       obtain hkp := id hD
       clear hx hk hD hkp
       go_simp
       try rfl
     simp only [Act.put, List.setIfInBounds_toArray, List.set_cons_zero, List.set_cons_succ])
  first
  | (refine Fx.WM.skip 16 (by rfl) (by kernel_rfl) (by kernel_rfl) (by kernel_rfl) (by rfl) (fun g f w h => h) ?_; simp only [Act.put, List.setIfInBounds_toArray, List.set_cons_zero, List.set_cons_succ])
  | (refine Fx.WM.val_ 16 ?_ (by rfl) (by kernel_rfl) (by kernel_rfl) (by kernel_rfl) (by rfl) ?_ (fun g f w h => h) ?_
     rotate_left
     · intro g f w' hx hD hk
       obtain hkp := id hD
       clear hx hk hD hkp
       go_simp
       try rfl
     simp only [Act.put, List.setIfInBounds_toArray, List.set_cons_zero, List.set_cons_succ])
  first
  | (refine Fx.WM.skip 17 (by rfl) (by kernel_rfl) (by kernel_rfl) (by kernel_rfl) (by rfl) (fun g f w h => h) ?_; simp only [Act.put, List.setIfInBounds_toArray, List.set_cons_zero, List.set_cons_succ])
  | (refine Fx.WM.val_ 17 ?_ (by rfl) (by kernel_rfl) (by kernel_rfl) (by kernel_rfl) (by rfl) ?_ (fun g f w h => h) ?_
     rotate_left
     · intro g f w' hx hD hk
       obtain hkp := id hD
       clear hx hk hD hkp
       go_simp
       try rfl
     simp only [Act.put, List.setIfInBounds_toArray, List.set_cons_zero, List.set_cons_succ])
  refine Fx.WM.nil (by kernel_rfl) ?_
  intro wz hkp
  have hr3 := (hkp.has 12 x12 (by rfl)).2.2.2 rfl
  have hb := hkp.bel
  clear hkp
  obtain ⟨⟨X12, d12⟩, y12⟩ := x12
  simp only at hr3
  obtain ⟨w3, hnm⟩ : ∃ z : World, z = wz := ⟨_, rfl⟩
  subst hnm
  have HR3 := Lib.hid hr3
  clear hr3
  have HB3 := Lib.hid (show Below w.heap.size w w3 from step_below hb (by repeat' (first | exact Below.refl _ _ | exact HB2.out | refine below_drewN ?_ _ | refine Below.drew ?_ | refine Below.alloc ?_ (by first | omega | (simp; done) | (simp; omega) | (simp [World.setCell]; omega)) _ | refine Below.setCell ?_ (by first | omega | (simp; done) | (simp; omega)) _ | assumption)))
  have K0_3 := Lib.hid (step_blk hb (show Blk _ (w.heap.size) 107 #[.slice B m d, .int .i64 (M), .int .i64 (T)] by repeat' (first | exact K0_2.out | exact Blk.at_ _ (by first | rfl | (simp; done) | (simp; omega)) _ _ | refine Blk.drewN ?_ _ | refine Blk.drew ?_ | refine Blk.alloc ?_ _ | refine Blk.far ?_ (by first | omega | (simp; done) | (simp; omega)) _ | assumption)))
  have hL3 := Lib.hid (show Below w2.heap.size w2 _ from reads_mid hb (by repeat' (first | exact Below.refl _ _ | refine below_drewN ?_ _ | refine Below.drew ?_ | refine Below.alloc ?_ (by first | omega | (simp; done) | (simp; omega) | (simp [World.setCell]; omega)) _ | refine Below.setCell ?_ (by first | omega | (simp; done) | (simp; omega)) _)))
  have R0_3 := Lib.hid (reads_lay hb hL3.out R0_2.out)
  have R1_3 := Lib.hid (reads_lay hb hL3.out R1_2.out)
  have R2_3 := Lib.hid (readsT_lay hb hL3.out R2_2.out)
  clear hL3 R0_2 R1_2 R2_2
  have hz3 := hb.size
  try simp only [World.size_alloc, World.drewN, World.drew] at hz3
  clear hb K0_2 z0_0_2 z0_1_2 z0_2_2 l0_2
  have l0_3 : w.heap.size < w3.heap.size := K0_3.out.lt
  have z0_0_3 : w3.cell? ⟨w.heap.size, 0, none⟩ = some (.slice B m d) := K0_3.out.cell 0
  have z0_1_3 : w3.cell? ⟨w.heap.size, 1, none⟩ = some (.int .i64 (M)) := K0_3.out.cell 1
  have z0_2_3 : w3.cell? ⟨w.heap.size, 2, none⟩ = some (.int .i64 (T)) := K0_3.out.cell 2
  have hr3 := HR3.out
  have R3_3 := Lib.hid hr3
  clear hr3
  go_wp2_with fail
  refine (HC70.out _ R0_3.out R1_3.out R2_3.out).mono ?_
  rintro e w4 ⟨A4, c4, rfl, hb, hr4⟩
  have HB4 := Lib.hid (show Below w.heap.size w w4 from step_below hb (by repeat' (first | exact Below.refl _ _ | exact HB3.out | refine below_drewN ?_ _ | refine Below.drew ?_ | refine Below.alloc ?_ (by first | omega | (simp; done) | (simp; omega) | (simp [World.setCell]; omega)) _ | refine Below.setCell ?_ (by first | omega | (simp; done) | (simp; omega)) _ | assumption)))
  have K0_4 := Lib.hid (step_blk hb (show Blk _ (w.heap.size) 107 #[.slice B m d, .int .i64 (M), .int .i64 (T)] by repeat' (first | exact K0_3.out | exact Blk.at_ _ (by first | rfl | (simp; done) | (simp; omega)) _ _ | refine Blk.drewN ?_ _ | refine Blk.drew ?_ | refine Blk.alloc ?_ _ | refine Blk.far ?_ (by first | omega | (simp; done) | (simp; omega)) _ | assumption)))
  have hL4 := Lib.hid (show Below w3.heap.size w3 _ from reads_mid hb (by repeat' (first | exact Below.refl _ _ | refine below_drewN ?_ _ | refine Below.drew ?_ | refine Below.alloc ?_ (by first | omega | (simp; done) | (simp; omega) | (simp [World.setCell]; omega)) _ | refine Below.setCell ?_ (by first | omega | (simp; done) | (simp; omega)) _)))
  have R0_4 := Lib.hid (reads_lay hb hL4.out R0_3.out)
  have R1_4 := Lib.hid (reads_lay hb hL4.out R1_3.out)
  have R2_4 := Lib.hid (readsT_lay hb hL4.out R2_3.out)
  have R3_4 := Lib.hid (reads_lay hb hL4.out R3_3.out)
  clear hL4 R0_3 R1_3 R2_3 R3_3
  have hz4 := hb.size
  try simp only [World.size_alloc, World.drewN, World.drew] at hz4
  clear hb K0_3 z0_0_3 z0_1_3 z0_2_3 l0_3
  have l0_4 : w.heap.size < w4.heap.size := K0_4.out.lt
  have z0_0_4 : w4.cell? ⟨w.heap.size, 0, none⟩ = some (.slice B m d) := K0_4.out.cell 0
  have z0_1_4 : w4.cell? ⟨w.heap.size, 1, none⟩ = some (.int .i64 (M)) := K0_4.out.cell 1
  have z0_2_4 : w4.cell? ⟨w.heap.size, 2, none⟩ = some (.int .i64 (T)) := K0_4.out.cell 2
  have R4_4 := Lib.hid hr4
  clear hr4
  go_wp2_with fail
  refine (ints_same7 X12 A4 d12 c4 m ls _ _ _ R3_4.out R4_4.out (by omega)).mono ?_
  rintro e w5 ⟨rfl, hb⟩
  have HB5 := Lib.hid (show Below w.heap.size w w5 from step_below hb (by repeat' (first | exact Below.refl _ _ | exact HB4.out | refine below_drewN ?_ _ | refine Below.drew ?_ | refine Below.alloc ?_ (by first | omega | (simp; done) | (simp; omega) | (simp [World.setCell]; omega)) _ | refine Below.setCell ?_ (by first | omega | (simp; done) | (simp; omega)) _ | assumption)))
  have K0_5 := Lib.hid (step_blk hb (show Blk _ (w.heap.size) 107 #[.slice B m d, .int .i64 (M), .int .i64 (T)] by repeat' (first | exact K0_4.out | exact Blk.at_ _ (by first | rfl | (simp; done) | (simp; omega)) _ _ | refine Blk.drewN ?_ _ | refine Blk.drew ?_ | refine Blk.alloc ?_ _ | refine Blk.far ?_ (by first | omega | (simp; done) | (simp; omega)) _ | assumption)))
  have hL5 := Lib.hid (show Below w4.heap.size w4 _ from reads_mid hb (by repeat' (first | exact Below.refl _ _ | refine below_drewN ?_ _ | refine Below.drew ?_ | refine Below.alloc ?_ (by first | omega | (simp; done) | (simp; omega) | (simp [World.setCell]; omega)) _ | refine Below.setCell ?_ (by first | omega | (simp; done) | (simp; omega)) _)))
  have R0_5 := Lib.hid (reads_lay hb hL5.out R0_4.out)
  have R1_5 := Lib.hid (reads_lay hb hL5.out R1_4.out)
  have R2_5 := Lib.hid (readsT_lay hb hL5.out R2_4.out)
  have R3_5 := Lib.hid (reads_lay hb hL5.out R3_4.out)
  have R4_5 := Lib.hid (reads_lay hb hL5.out R4_4.out)
  clear hL5 R0_4 R1_4 R2_4 R3_4 R4_4
  have hz5 := hb.size
  try simp only [World.size_alloc, World.drewN, World.drew] at hz5
  clear hb K0_4 z0_0_4 z0_1_4 z0_2_4 l0_4
  have l0_5 : w.heap.size < w5.heap.size := K0_5.out.lt
  have z0_0_5 : w5.cell? ⟨w.heap.size, 0, none⟩ = some (.slice B m d) := K0_5.out.cell 0
  have z0_1_5 : w5.cell? ⟨w.heap.size, 1, none⟩ = some (.int .i64 (M)) := K0_5.out.cell 1
  have z0_2_5 : w5.cell? ⟨w.heap.size, 2, none⟩ = some (.int .i64 (T)) := K0_5.out.cell 2
  clear R4_5
  have RH := R0_5
  have RV := R1_5
  have RT := R2_5
  have RX := R3_5
  have KB5 := K0_5
  have hs5 := HB5.out.size
  clear R0_5 R1_5 R2_5 R3_5
  go_wp2
  go_loopw [14, 15] (fun o i wr => ∃ (k N : Nat) (ts : List TRow), k ≤ m ∧ i = .int .i64 k ∧ wr.ownsRow w5.heap.size 22 1 o N (ts.map TRow.val) ∧ ts.length = N ∧ N ≤ 60 ∧ (∀ r ∈ ts, r ∈ t) ∧ (∀ z, totL (ts.map (·.xs)) z ≤ usedK ls (t.map (·.xs)) k z) ∧ Below w5.heap.size w5 wr) (fun _ i _ => m - (intOf i).toNat)
  case atStart => exact ⟨0, 0, [], by omega, rfl, World.ownsRow_nil _ _ _ _, rfl, by omega, by simp, tot_start, Below.refl _ _⟩
  case round =>
    obtain ⟨k, N, ts, hk, rfl, ho, hN, hN60, hmem, htot, hbk⟩ := hrel
    clear z0_0_5 z0_1_5 z0_2_5
    obtain ⟨w6, hnm⟩ : ∃ z : World, z = wr := ⟨_, rfl⟩
    subst hnm
    have HO := Lib.hid ho
    have HMEM := Lib.hid hmem
    have HTOT := Lib.hid htot
    have HBK := Lib.hid hbk
    have HNN := Lib.hid hN
    have hb6 := HB5.out.trans (hbk.mono HB5.out.size)
    have hk6 := Blk.below KB5.out hbk KB5.out.lt
    clear ho hmem htot hN hbk
    have HB6 := Lib.hid hb6
    have K0_6 := Lib.hid (show Blk w6 (w.heap.size) 107 #[.slice B m d, .int .i64 (M), .int .i64 (T)] from hk6)
    clear hb6 hk6
    have l0_6 : w.heap.size < w6.heap.size := K0_6.out.lt
    have z0_0_6 : w6.cell? ⟨w.heap.size, 0, none⟩ = some (.slice B m d) := K0_6.out.cell 0
    have z0_1_6 : w6.cell? ⟨w.heap.size, 1, none⟩ = some (.int .i64 (M)) := K0_6.out.cell 1
    have z0_2_6 : w6.cell? ⟨w.heap.size, 2, none⟩ = some (.int .i64 (T)) := K0_6.out.cell 2
    by_cases hkt : k < m
    rotate_left
    · skip
      obtain rfl : m = k := by omega
      obtain ⟨A7, c7, rfl, hr7⟩ := own_reads HO.out
      have HT1 := Lib.hid (show sessF h v (ts.map (·.xs)) = (0, 0) from few_sess HZ1.out (by rw [List.length_map, HNN.out]; omega) (fun s hs => by
        obtain ⟨r, hr, rfl⟩ := List.mem_map.1 hs
        rw [HL.out]
        exact HWK.out r.xs (List.mem_map.2 ⟨r, HMEM.out r hr, rfl⟩)) HFIT.out (fun z _ => by rw [HTL.out]; exact HTOT.out z))
      have hrt : ReadsT w6 w6.heap.size A7 N ts := ⟨hr7, fun r hr => ((RT.out.below HBK.out).more HBK.out.size).2 r (HMEM.out r hr)⟩
      have HRT := Lib.hid hrt
      have HRH := Lib.hid ((RH.out.below HBK.out).more HBK.out.size)
      have HRV := Lib.hid ((RV.out.below HBK.out).more HBK.out.size)
      clear hr7 hrt
      go_wp2_with fail
      refine (checksessions_is A n c V n cv A7 N c7 h v ts (0, 0) HT1.out _ HRH.out HRV.out HRT.out (by omega) (by omega) (by omega)).mono ?_
      rintro e w7 ⟨rfl, hb⟩
      have HB7 := Lib.hid (show Below w.heap.size w w7 from step_below hb (by repeat' (first | exact Below.refl _ _ | exact HB6.out | refine below_drewN ?_ _ | refine Below.drew ?_ | refine Below.alloc ?_ (by first | omega | (simp; done) | (simp; omega) | (simp [World.setCell]; omega)) _ | refine Below.setCell ?_ (by first | omega | (simp; done) | (simp; omega)) _ | assumption)))
      have K0_7 := Lib.hid (step_blk hb (show Blk _ (w.heap.size) 107 #[.slice B m d, .int .i64 (M), .int .i64 (T)] by repeat' (first | exact K0_6.out | exact Blk.at_ _ (by first | rfl | (simp; done) | (simp; omega)) _ _ | refine Blk.drewN ?_ _ | refine Blk.drew ?_ | refine Blk.alloc ?_ _ | refine Blk.far ?_ (by first | omega | (simp; done) | (simp; omega)) _ | assumption)))
      have hz7 := hb.size
      try simp only [World.size_alloc, World.drewN, World.drew] at hz7
      clear hb K0_6 z0_0_6 z0_1_6 z0_2_6 l0_6
      have l0_7 : w.heap.size < w7.heap.size := K0_7.out.lt
      have z0_0_7 : w7.cell? ⟨w.heap.size, 0, none⟩ = some (.slice B m d) := K0_7.out.cell 0
      have z0_1_7 : w7.cell? ⟨w.heap.size, 1, none⟩ = some (.int .i64 (M)) := K0_7.out.cell 1
      have z0_2_7 : w7.cell? ⟨w.heap.size, 2, none⟩ = some (.int .i64 (T)) := K0_7.out.cell 2
      go_wp2
      go_ret
      exact ⟨rfl, by repeat' (first | exact Below.refl _ _ | exact HB7.out | refine below_drewN ?_ _ | refine Below.drew ?_ | refine Below.alloc ?_ (by first | omega | (simp; done) | (simp; omega) | (simp [World.setCell]; omega)) _ | refine Below.setCell ?_ (by first | omega | (simp; done) | (simp; omega)) _ | assumption)⟩
    have hkk : (k : Int) < (m : Int) := by omega
    obtain ⟨xb, xo, x, hXe, hxb, gx, cx5⟩ := RX.out.int_ hkt
    obtain ⟨zb, zo, r, hBe, hzb, gr, cr5, hrc, hrl, hrr⟩ := RT.out.at_ hkt
    obtain ⟨rA, rn, rc, rx⟩ := r
    simp only at cr5 hrc hrl hrr
    have hx1 := HLB.out x (List.mem_of_getElem? gx)
    have HGX := Lib.hid (show ls.getD k 0 = x from getD_of gx)
    have HGR := Lib.hid (show (t.map (·.xs)).getD k [] = rx from getD_of (by rw [List.getElem?_map, gr]; rfl))
    have HMR := Lib.hid (List.mem_of_getElem? gr)
    have HRX := Lib.hid (wear_ok (HWK.out rx (List.mem_map.2 ⟨_, List.mem_of_getElem? gr, rfl⟩))).2
    have HCX := Lib.hid (show ∀ w', Below w5.heap.size w5 w' → w'.cell? ⟨xb, xo + k, none⟩ = some (.int .i64 x) from fun w' hb => (hb.cell (p := ⟨xb, xo + k, none⟩) hxb).trans cx5)
    have HCR := Lib.hid (show ∀ w', Below w5.heap.size w5 w' → w'.cell? ⟨zb, zo + k, none⟩ = some (.slice rA rn rc) from fun w' hb => (hb.cell (p := ⟨zb, zo + k, none⟩) hzb).trans cr5)
    subst hXe
    subst hBe
    clear gx gr hrr cx5 cr5
    go_wp2
    go_loopw [14, 16] (fun o i wr => ∃ (p N : Nat) (ts : List TRow), i = .int .i64 p ∧ (p : Int) ≤ x ∧ wr.ownsRow w5.heap.size 22 1 o N (ts.map TRow.val) ∧ ts.length = N ∧ N ≤ 60 ∧ (∀ r ∈ ts, r ∈ t) ∧ (∀ z, totL (ts.map (·.xs)) z ≤ usedK ls (t.map (·.xs)) k z + (p : Int) * rx.getD z 0) ∧ Below w5.heap.size w5 wr) (fun _ i _ => (x - intOf i).toNat)
    case atStart => exact ⟨0, N, ts, rfl, by omega, HO.out, HNN.out, hN60, HMEM.out, tot_none HTOT.out, HBK.out⟩
    case round =>
      obtain ⟨p, N2, ts2, rfl, hpx, ho2, hN2, hN260, hmem2, htot2, hb57⟩ := hrel
      clear z0_0_6 z0_1_6 z0_2_6
      obtain ⟨w7, hnm⟩ : ∃ z : World, z = wr := ⟨_, rfl⟩
      subst hnm
      obtain ⟨A7, c7, rfl, -⟩ := own_reads ho2
      have HO2 := Lib.hid ho2
      have HM2 := Lib.hid hmem2
      have HT2 := Lib.hid htot2
      have HN2 := Lib.hid hN2
      have HB57 := Lib.hid hb57
      have hs7 := hb57.size
      have hb7 := HB5.out.trans (hb57.mono HB5.out.size)
      have hk7 := Blk.below KB5.out hb57 KB5.out.lt
      have cx := HCX.out w7 hb57
      have cr := HCR.out w7 hb57
      clear ho2 hmem2 htot2 hN2 hb57
      have HB7 := Lib.hid hb7
      have K0_7 := Lib.hid (show Blk w7 (w.heap.size) 107 #[.slice (some ⟨zb, zo, none⟩) m d, .int .i64 (M), .int .i64 (T)] from hk7)
      clear hb7 hk7
      have l0_7 : w.heap.size < w7.heap.size := K0_7.out.lt
      have z0_0_7 : w7.cell? ⟨w.heap.size, 0, none⟩ = some (.slice (some ⟨zb, zo, none⟩) m d) := K0_7.out.cell 0
      have z0_1_7 : w7.cell? ⟨w.heap.size, 1, none⟩ = some (.int .i64 (M)) := K0_7.out.cell 1
      have z0_2_7 : w7.cell? ⟨w.heap.size, 2, none⟩ = some (.int .i64 (T)) := K0_7.out.cell 2
      by_cases hp : (p : Int) < x
      rotate_left
      · have hd : decide ((p : Int) < x) = false := by simpa using hp
        clear cr hp
        go_wp2
        go_roundw
        case rel => exact ⟨k + 1, N2, ts2, by omega, by go_num, HO2.out, HN2.out, hN260, HM2.out, tot_next HT2.out hpx HGX.out HGR.out HRX.out, HB57.out⟩
        case measure => simp [intOf]; omega
      have hd : decide ((p : Int) < x) = true := by simpa using hp
      by_cases h60 : N2 < 60
      rotate_left
      · have he : decide ((N2 : Int) < 60) = false := by simp; omega
        clear cr hp h60
        go_wp2
        go_roundw
        case rel => exact ⟨k + 1, N2, ts2, by omega, by go_num, HO2.out, HN2.out, hN260, HM2.out, tot_next HT2.out hpx HGX.out HGR.out HRX.out, HB57.out⟩
        case measure => simp [intOf]; omega
      have he : decide ((N2 : Int) < 60) = true := by simp; omega
      obtain ⟨v', W2, hrun, ho', hbW⟩ := rows_snoc ⟨rA, rn, rc, rx⟩ HO2.out hs7 (by omega)
      have HRUN := Lib.hid hrun
      have HOW := Lib.hid ho'
      have HBW := Lib.hid (HB57.out.trans hbW)
      clear hrun ho' hbW
      go_wp2_with (first | (at_builtin; refine wpList_app _ W2 v' rfl _ _ _ rfl _ _ rfl rfl HRUN.out ?_))
      go_roundw
      case rel => exact ⟨p + 1, N2 + 1, ts2 ++ [⟨rA, rn, rc, rx⟩], by go_num, by omega, HOW.out, by rw [List.length_append, HN2.out]; rfl, by omega, fun r hr => by
        rcases List.mem_append.1 hr with h1 | h1
        · exact HM2.out r h1
        · obtain rfl : r = ⟨rA, rn, rc, rx⟩ := by simpa using h1
          exact HMR.out, fun z => by rw [List.map_append]; exact tot_more HT2.out z, HBW.out⟩
      case measure => simp [intOf]; omega
end Go.Proofs.Ytnepjgnnppfibaa

end
