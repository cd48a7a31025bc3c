/- The examples with which each statement begins are so. -/
import Derived.Test.YtmioamcgbihhjaaAwakeNum
import Derived.Test.YtmioamcgbihhjaaOwn
namespace Go.Proofs.Ytmioamcgbihhjaa
open Go.RowKit

theorem tree_any (w : World) : Calls Try.prog 71 #[] w fun e w' => e = .returned (.slice (some ⟨w.heap.size, 0, none⟩) 3 3) ∧ w' = w.alloc (.cells (rkCells treeL).toArray 132) := by
  go_enter Try.func71, Try.ntmps71
  go_wp2
  go_ret
  exact ⟨rfl, rfl⟩

theorem treeL_fits : ∀ r ∈ treeL, r.Fits := by
  intro r hr
  simp only [treeL, List.mem_cons, List.not_mem_nil, or_false] at hr
  rcases hr with rfl | rfl | rfl <;> exact ⟨by decide, by decide, by decide⟩

theorem awake_shares (A : Option Addr) (N : Nat) (w : World) (hx : Reads w N 5 A 3 (rkCells treeL)) (hN : N ≤ w.heap.size) :
    Calls Try.prog 60 #[.slice A 3 3] w fun e w' => ∃ B c, e = .returned (.tuple #[.slice B 4 c, .int .i64 0]) ∧ Below w.heap.size w w' ∧ Reads w' w'.heap.size 2 B 4 (cells2 [(1, 3), (1, 3), (1, 12), (1, 4)]) :=
  (Shares_any treeL treeL_fits A 3 3 N w (by decide) hx hN (fun _ => ⟨_, treeL_pts, by decide⟩)).mono fun e w' ⟨hb, _, _, h⟩ => by
    obtain ⟨v, he, ho⟩ := h treeL_open _ treeL_shares
    obtain ⟨B, c, rfl, hr⟩ := own_reads ho
    exact ⟨B, c, he, hb, hr⟩

theorem awake_back (A : Option Addr) (N : Nat) (w : World) (hx : Reads w N 2 A 2 (cells2 [(10, 40), (20, 30)])) (hN : N ≤ w.heap.size) :
    Calls Try.prog 24 #[.slice A 2 2] w fun e w' => e = .returned (.tuple #[.int .i64 12, .int .i64 0]) ∧ Below w.heap.size w w' :=
  (returns_any A 2 2 N _ w hx hN (by decide)).mono fun e w' ⟨he, hb⟩ => ⟨by rw [he, awake_returns], hb⟩

theorem awake_pair (w : World) : Calls Try.prog 32 #[.agg #[.int .i64 355, .int .i64 113], .int .i64 1, .int .i64 100] w fun e w' => e = .returned (.tuple #[.agg #[.int .i64 22, .int .i64 7], .int .i64 0]) ∧ Below w.heap.size w w' :=
  (bestpair_any 355 113 1 100 w (by decide) (by decide) (by decide) (by decide)).mono fun e w' ⟨hb, _, h⟩ => ⟨by rw [h (by kernel_rfl), awake_best], hb⟩

theorem awake_any (w : World) : Calls Try.prog 15 #[] w fun e w' => e = .returned (.bool true) ∧ Below w.heap.size w w' := by
  go_enter Try.func15, Try.ntmps15
  go_wp2_with (first | (go_at_call 71; refine (tree_any _).mono ?_; rintro e w1 ⟨rfl, rfl⟩))
  refine (awake_shares _ _ _ (Blk.reads (n := 3) (size := 5) (Blk.at_ w rfl _ _) (by kernel_rfl)) (Nat.le_refl _)).mono ?_
  rintro e w1 ⟨B, c, rfl, hb1, hr1⟩
  have hb1' : Below w.heap.size w w1 := ((Below.refl _ _).alloc (Nat.le_refl _) _).trans (hb1.mono (by simp))
  have HB1 := Lib.hid hb1'
  have HR1 := Lib.hid hr1
  clear hb1 hb1' hr1
  go_wp2_with fail
  have hwant : Blk (w1.alloc (.cells #[.int .i64 1, .int .i64 3, .int .i64 1, .int .i64 3, .int .i64 1, .int .i64 12, .int .i64 1, .int .i64 4] 23)) w1.heap.size 23 #[.int .i64 1, .int .i64 3, .int .i64 1, .int .i64 3, .int .i64 1, .int .i64 12, .int .i64 1, .int .i64 4] := Blk.new _ _ _
  refine (awake_back _ _ _ (Blk.reads (n := 2) (size := 2) (Blk.at_ _ (by simp) _ _) (by kernel_rfl)) (Nat.le_refl _)).mono ?_
  rintro e w2 ⟨rfl, hb2⟩
  have hwant2 := (hwant.alloc (.cells #[.int .i64 10, .int .i64 40, .int .i64 20, .int .i64 30] 45)).below hb2 (by simp; omega)
  simp only [World.size_alloc] at hb2
  have hb2' : Below w1.heap.size w1 w2 := (((Below.refl _ _).alloc (Nat.le_refl _) _).alloc (by simp) _).trans (hb2.mono (by omega))
  have hz2 := hb2.size
  have HB2 := Lib.hid hb2'
  have HW2 := Lib.hid hwant2
  clear hb2 hb2' hwant hwant2
  go_wp2_with fail
  refine (awake_pair _).mono ?_
  rintro e w3 ⟨rfl, hb3⟩
  have hwant3 := HW2.out.below hb3 HW2.out.lt
  have hr3 := (HR1.out.belowLe HB2.out (Nat.le_refl _)).belowLe hb3 (HB2.out.size)
  have hz3 := hb3.size
  have HB3 := Lib.hid (HB1.out.trans ((HB2.out.mono HB1.out.size).trans (hb3.mono (Nat.le_trans HB1.out.size HB2.out.size))))
  have HR3 := Lib.hid hr3
  have HW3 := Lib.hid hwant3
  clear hwant3 hr3 hb3
  go_wp2_with fail
  have hW : Blk (w3.alloc (.cells #[.int .i64 22, .int .i64 7] 45)) w1.heap.size 23 _ := HW3.out.alloc _
  refine (fracs_any B (some ⟨w1.heap.size, 0, none⟩) c 4 4 4 [(1, 3), (1, 3), (1, 12), (1, 4)] [(1, 3), (1, 3), (1, 12), (1, 4)] _ (w3.alloc (.cells #[.int .i64 22, .int .i64 7] 45)).heap.size (Reads.more (HR3.out.alloc (by have := HB2.out.size; omega) _) (by have := HB2.out.size; simp; omega)) (Blk.reads (n := 4) (size := 2) hW (by kernel_rfl)) (by decide) (by decide)).mono ?_
  rintro e w4 ⟨rfl, q, rfl⟩
  have hg : Blk (w3.alloc (.cells #[.int .i64 22, .int .i64 7] 45)) w3.heap.size 45 #[.int .i64 22, .int .i64 7] := Blk.new _ _ _
  go_wp2
  go_ret
  exact ⟨rfl, below_drewN (HB3.out.alloc HB3.out.size _) _⟩

end Go.Proofs.Ytmioamcgbihhjaa
