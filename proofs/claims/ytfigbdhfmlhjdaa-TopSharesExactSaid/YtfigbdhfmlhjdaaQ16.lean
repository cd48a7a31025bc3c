import Derived.Test.YtfigbdhfmlhjdaaQ15
import Derived.Test.YtfigbdhfmlhjdaaQ12

section
/- Contracts of all shares as the reference has them, and of its check of shares. -/
namespace Go.Proofs.Ytfigbdhfmlhjdaa
open Go.RowKit

theorem made_fracs (m : Nat) : madeCells #[.int .i64 0, .int .i64 0] (m * 2) = (cells2 (List.replicate m (0, 0))).toArray := by
  apply Array.ext
  · rw [size_madeCells]; simp [cells2_length]
  · intro i h1 h2
    rw [size_madeCells] at h1
    have hl : (List.replicate m ((0 : Int), (0 : Int))).length = m := by simp
    have e1 : (madeCells #[.int .i64 0, .int .i64 0] (m * 2))[i]'(by rw [size_madeCells]; exact h1) = .int .i64 0 := by
      unfold madeCells
      simp only [Array.getElem_map, Array.getElem_range]
      have : i % 2 = 0 ∨ i % 2 = 1 := by omega
      rcases this with h | h <;> simp [h]
    have e2 : (cells2 (List.replicate m ((0 : Int), (0 : Int))))[i]'(by rw [cells2_length, hl]; exact h1) = .int .i64 0 := by
      have hg := cells2_get (List.replicate m ((0 : Int), (0 : Int))) (i / 2) (by rw [hl]; omega)
      simp only [List.getElem_replicate] at hg
      have : i = i / 2 * 2 ∨ i = i / 2 * 2 + 1 := by omega
      rcases this with h | h
      · have := hg.1; rw [← h] at this; exact (List.getElem?_eq_some_iff.1 this).2
      · have := hg.2; rw [← h] at this; exact (List.getElem?_eq_some_iff.1 this).2
    rw [e1]
    simp only [List.getElem_toArray]
    rw [e2]

def RSharesPost (l : List Rk) (m : Nat) (w : World) (e : Ending) (w' : World) : Prop :=
  Below w.heap.size w w' ∧ ∃ A' c', e = .returned (.tuple #[.slice A' m c', .bool (sharesOf l).isSome]) ∧ ∀ ys, sharesOf l = some ys → Reads w' w'.heap.size 2 A' m (cells2 ys)

set_option maxRecDepth 100000 in
set_option maxHeartbeats 1000000 in
theorem rshares_any (l : List Rk) (hfits : ∀ r ∈ l, r.Fits) (A : Option Addr) (n c N : Nat) (w : World) (hx : Reads w N 5 A n (rkCells l)) (hN : N ≤ w.heap.size) (hn : n ≤ 100000) (h0 : openErr l = 0) (ps : List ByteArray) (hp : ptsOf l = some ps) (hps : ps.length ≤ 1000000) :
    Calls Try.prog 14 #[.slice A n c] w (RSharesPost l ps.length w) := by
  obtain ⟨i0, hi0, hz0, hz1, hz2⟩ := info_parts info_frac
  have harms := arms_of h0
  have hnd := points_nodup h0 hp
  have hx' := hx.more hN
  have HX := Lib.hid hx'
  have HP := Lib.hid hp
  have H0 := Lib.hid h0
  have hmk : ∀ w, (Instr.makeSlice 40 (.int .i64 (ps.length : Int)) (.int .i64 (ps.length : Int))).run Try.prog w = .ok (.slice (some ⟨w.heap.size, 0, none⟩) ps.length ps.length) (w.alloc (.cells (cells2 (List.replicate ps.length (0, 0))).toArray 35)) := fun w => by
    have := run_make_rowN (P := Try.prog) 40 35 i0 (.agg #[.int .i64 0, .int .i64 0]) Try.underlying40 hi0 hz0 .i64 .i64 ps.length ps.length (Nat.le_refl _) (by rw [hz2]; omega) (by omega) w
    rw [this, hz1]
    have e := made_fracs ps.length
    rw [← e]
    rfl
  clear hx hx' hp h0 hi0 hz0 hz1 hz2
  obtain ⟨m, hm⟩ : ∃ m, ps.length = m := ⟨_, rfl⟩
  have HM := Lib.hid hm
  rw [hm] at hmk hps
  rw [hm]
  clear hm
  have hxq := HX.out
  go_enter Try.func14, Try.ntmps14
  have R0_0 := Lib.hid hxq
  clear hxq
  go_wp2_with fail
  refine (rpoints_any l hfits A n c _ _ R0_0.out (Nat.le_refl _) hn H0.out ps HP.out (by rw [HM.out]; exact hps)).mono ?_
  rintro e w1 ⟨hb, A1, c1, rfl, ho⟩
  have HB1 := Lib.hid (show Below w.heap.size w w1 from step_below hb (by repeat' (first | exact Below.refl _ _ | exact HB0.out | refine below_drewN ?_ _ | refine Below.drew ?_ | refine Below.alloc ?_ (by first | omega | (simp; done) | (simp; omega) | (simp [World.setCell]; omega)) _ | refine Below.setCell ?_ (by first | omega | (simp; done) | (simp; omega)) _ | assumption)))
  have hL1 := Lib.hid (show Below w.heap.size w _ from reads_mid hb (by repeat' (first | exact Below.refl _ _ | refine below_drewN ?_ _ | refine Below.drew ?_ | refine Below.alloc ?_ (by first | omega | (simp; done) | (simp; omega) | (simp [World.setCell]; omega)) _ | refine Below.setCell ?_ (by first | omega | (simp; done) | (simp; omega)) _)))
  have R0_1 := Lib.hid (reads_lay hb hL1.out R0_0.out)
  clear hL1 R0_0
  have hz1 := hb.size
  try simp only [World.size_alloc, World.drewN, World.drew] at hz1
  clear hb
  have hr' := own_reads2 ho
  rw [HM.out] at hr'
  rw [HM.out]
  clear ho
  have R1_1 := Lib.hid hr'
  clear hr'
  go_wp2_with fail
  clear hmk
  have hb : Below w1.heap.size w1 (w1.alloc (.cells (cells2 (List.replicate m (0, 0))).toArray 35)) := (Below.refl _ _).alloc (Nat.le_refl _) _
  refine (rtop_any l hfits A n c w.heap.size _ (HX.out.below (HB1.out.trans (hb.mono HB1.out.size))) (Nat.le_trans HB1.out.size hb.size) hn H0.out).mono ?_
  rintro e w2 ⟨rfl, hb2⟩
  have kz : Blk w2 w1.heap.size 35 (cells2 ([] ++ List.replicate m (0, 0) ++ [])).toArray := by
    rw [List.nil_append, List.append_nil]
    exact (Blk.new w1 _ _).below hb2 (by simp)
  have hw12 : Below w1.heap.size w1 w2 := hb.trans (hb2.mono hb.size)
  have hw02 : Below w.heap.size w w2 := HB1.out.trans (hw12.mono HB1.out.size)
  have hr2 : Reads w2 w1.heap.size 1 A1 m (strs ps) := R1_1.out.below hw12
  have hx2 : Reads w2 w.heap.size 5 A n (rkCells l) := HX.out.below hw02
  have KZ := Lib.hid kz
  have HW02 := Lib.hid hw02
  have HW12 := Lib.hid hw12
  have HR2 := Lib.hid hr2
  have HX2 := Lib.hid hx2
  have hs1 := HB1.out.size
  clear kz hw12 hw02 hr2 hx2 hb hb2
  go_wp2_with fail
  refine (rshare_any l hfits harms A n c w.heap.size A1 m c1 w1.heap.size ps hn hps hs1 hnd l.length (topName l) ps 1 1 [] [] [] (List.replicate m (0, 0)) [] _ (by have := HP.out; unfold ptsOf at this; exact this) ⟨by omega, by omega⟩ ⟨by omega, by omega⟩ (by simp) HX2.out HR2.out KZ.out rfl (by simp [HM.out]) (by simp)).mono ?_
  rintro e w3 ⟨hg, rfl, zs, hzl, hzb, hzy⟩
  have HW03 : Hid (Below w.heap.size w w3) := by
    exact HW02.out.grown hg (by have := HW02.out.size; omega) (fun g hg => by have e := Option.some.inj hg; rw [← e]; exact hs1)
  have HZB := Lib.hid hzb
  have HZY := Lib.hid hzy
  have HZL := Lib.hid hzl
  clear hg hzb hzy hzl
  go_wp2
  go_ret2
  refine ⟨HW03.out, some ⟨w1.heap.size, 0, none⟩, m, ?_, fun ys hys => ?_⟩
  · unfold sharesOf; rfl
  · have := HZY.out ys (by unfold sharesOf at hys; exact hys)
    rw [List.nil_append, List.append_nil] at this
    subst this
    exact Blk.reads HZB.out (by rw [cells2_length, HZL.out])

/-- The error of the first fraction that is not right. -/
def fracsErr : List (Int × Int) → Int
  | [] => 0
  | p :: l => if fracErr p.1 p.2 ≠ 0 then fracErr p.1 p.2 else fracsErr l
/-- The error of shares of a right tree with so many points. -/
def cksErr (np : Nat) (res : Option (List (Int × Int))) (xs : List (Int × Int)) : Int :=
  if xs.length ≠ np then 10 else if fracsErr xs ≠ 0 then fracsErr xs else match res with
    | none => 8
    | some ys => if ys = xs then 0 else 22

def Small2 (l : List (Int × Int)) : Prop := ∀ p ∈ l, (-9223372036854775808 ≤ p.1 ∧ p.1 ≤ 9223372036854775807) ∧ (-9223372036854775808 ≤ p.2 ∧ p.2 ≤ 9223372036854775807)


end Go.Proofs.Ytfigbdhfmlhjdaa

end
