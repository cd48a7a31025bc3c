/- Copies of lists: what append to an empty list of its own makes, and the contracts of the functions that copy. -/
import Derived.Test.YtmioamcgbihhjaaOwn
import Derived.Test.YtmioamcgbihhjaaLists
import Derived.Test.YtmioamcgbihhjaaShares
namespace Go.Proofs.Ytmioamcgbihhjaa
open Go.RowKit

theorem copy_run {P : Program} (t ty e : TypeId) (z : Value) (size bytes : Nat) (ht : P.underlying t = some (.slice e)) (hi : (P.info? e).map (fun i => (i.zero, i.size, i.bytes)) = some (some z, size, bytes)) (hzs : z.cells.size = size) (hsz : 0 < size)
    (w : World) (N : Nat) (A : Option Addr) (n c : Nat) (xs : List Value) (hr : Reads w N size A n xs) (hN : N ≤ w.heap.size) (h1 : ∀ u ∈ xs, u.oneCell' = true) (hn : n ≤ maxLen) (hbytes : n * bytes ≤ 140737488355328) :
    ∃ v' W2, (Builtin.append_ #[t, t] ty #[.slice (some ⟨w.heap.size, 0, none⟩) 0 0, .slice A n c]).run P (w.alloc (.cells #[] e)) = .ok v' W2 ∧ W2.ownsRow w.heap.size e size v' n xs ∧ Below w.heap.size w W2 := by
  obtain ⟨i0, hi0, hz0, hz1, hz2⟩ := info_parts hi
  have ho : (w.alloc (.cells #[] e)).ownsRow w.heap.size e size (.slice (some ⟨w.heap.size, 0, none⟩) 0 0) 0 [] :=
    ⟨by simp, .inr ⟨w.heap.size, 0, #[], rfl, Nat.le_refl _, Blk.new _ _ _, by omega, by decide, by simp, by simp⟩⟩
  obtain ⟨v', W2, hrun, ho2, hg, -⟩ := run_append_any (P := P) (w.alloc (.cells #[] e)) w.heap.size t ty e i0 z size bytes ht hi0 hz0 hz1 hz2 hzs hsz _ 0 [] ho N A n c xs (hr.alloc hN _) h1 (by omega) (by rw [Nat.zero_add]; omega) (by simp)
  refine ⟨v', W2, hrun, by simpa using ho2, ?_⟩
  exact ((Below.refl _ _).alloc (Nat.le_refl _) _).grown hg (by simp) (fun k hk => (own_lt ho hk).1)

theorem one_cells2 (l : List (Int × Int)) : ∀ u ∈ cells2 l, u.oneCell' = true := by
  intro u hu
  unfold cells2 at hu
  rw [List.mem_flatMap] at hu
  obtain ⟨p, -, hp⟩ := hu
  simp at hp
  rcases hp with rfl | rfl <;> rfl
theorem one_ints (l : List Int) : ∀ u ∈ l.map (Value.int .i64), u.oneCell' = true := by
  intro u hu
  obtain ⟨p, -, rfl⟩ := List.mem_map.1 hu
  rfl

theorem info_pair : (Try.prog.info? 45).map (fun i => (i.zero, i.size, i.bytes)) = some (some (.agg #[.int .i64 0, .int .i64 0]), 2, 16) := by kernel_rfl
theorem info_range : (Try.prog.info? 64).map (fun i => (i.zero, i.size, i.bytes)) = some (some (.agg #[.int .i64 0, .int .i64 0]), 2, 16) := by kernel_rfl
theorem info_int : (Try.prog.info? 3).map (fun i => (i.zero, i.size, i.bytes)) = some (some (.int .i64 0), 1, 8) := by kernel_rfl

/-- A copy: the elements, in memory of its own. -/
def CopyPost (w : World) (e : TypeId) (size n : Nat) (xs : List Value) (en : Ending) (w' : World) : Prop :=
  ∃ A c, en = .returned (.slice A n c) ∧ Below w.heap.size w w' ∧ Reads w' w'.heap.size size A n xs ∧ w'.ownsRow w.heap.size e size (.slice A n c) n xs
theorem CopyPost.of {w w' : World} {e : TypeId} {size n : Nat} {xs : List Value} {v : Value} (ho : w'.ownsRow w.heap.size e size v n xs) (hb : Below w.heap.size w w') : CopyPost w e size n xs (.returned v) w' := by
  obtain ⟨A, c, rfl, hr⟩ := own_reads ho
  exact ⟨A, c, rfl, hb, hr, ho⟩

theorem copytrain_any (A : Option Addr) (n c N : Nat) (l : List (Int × Int)) (w : World) (hx : Reads w N 2 A n (cells2 l)) (hN : N ≤ w.heap.size) (hn : n ≤ 1000000) :
    Calls Try.prog 23 #[.slice A n c] w (CopyPost w 45 2 n (cells2 l)) := by
  obtain ⟨v', W2, hrun, ho, hb⟩ := copy_run (P := Try.prog) 34 34 45 _ 2 16 Try.underlying34 info_pair rfl (by omega) w N A n c (cells2 l) hx hN (one_cells2 l) (by unfold maxLen; omega) (by omega)
  have HRUN := Lib.hid hrun
  have HO := Lib.hid ho
  have HB := Lib.hid hb
  clear hrun ho hb
  go_enter Try.func23, Try.ntmps23
  go_wp2_with (first | (at_builtin; refine wpList_app _ W2 v' rfl _ _ _ rfl _ _ rfl rfl HRUN.out ?_))
  go_ret
  exact CopyPost.of HO.out HB.out
theorem copyranges_any (A : Option Addr) (n c N : Nat) (l : List (Int × Int)) (w : World) (hx : Reads w N 2 A n (cells2 l)) (hN : N ≤ w.heap.size) (hn : n ≤ 1000000) :
    Calls Try.prog 39 #[.slice A n c] w (CopyPost w 64 2 n (cells2 l)) := by
  obtain ⟨v', W2, hrun, ho, hb⟩ := copy_run (P := Try.prog) 61 61 64 _ 2 16 Try.underlying61 info_range rfl (by omega) w N A n c (cells2 l) hx hN (one_cells2 l) (by unfold maxLen; omega) (by omega)
  have HRUN := Lib.hid hrun
  have HO := Lib.hid ho
  have HB := Lib.hid hb
  clear hrun ho hb
  go_enter Try.func39, Try.ntmps39
  go_wp2_with (first | (at_builtin; refine wpList_app _ W2 v' rfl _ _ _ rfl _ _ rfl rfl HRUN.out ?_))
  go_ret
  exact CopyPost.of HO.out HB.out
theorem copyfracs_any (A : Option Addr) (n c N : Nat) (l : List (Int × Int)) (w : World) (hx : Reads w N 2 A n (cells2 l)) (hN : N ≤ w.heap.size) (hn : n ≤ 1000000) :
    Calls Try.prog 63 #[.slice A n c] w (CopyPost w 23 2 n (cells2 l)) := by
  obtain ⟨v', W2, hrun, ho, hb⟩ := copy_run (P := Try.prog) 25 25 23 _ 2 16 Try.underlying25 info_frac rfl (by omega) w N A n c (cells2 l) hx hN (one_cells2 l) (by unfold maxLen; omega) (by omega)
  have HRUN := Lib.hid hrun
  have HO := Lib.hid ho
  have HB := Lib.hid hb
  clear hrun ho hb
  go_enter Try.func63, Try.ntmps63
  go_wp2_with (first | (at_builtin; refine wpList_app _ W2 v' rfl _ _ _ rfl _ _ rfl rfl HRUN.out ?_))
  go_ret
  exact CopyPost.of HO.out HB.out
theorem copyints_any (A : Option Addr) (n c N : Nat) (l : List Int) (w : World) (hx : Reads w N 1 A n (l.map (.int .i64))) (hN : N ≤ w.heap.size) (hn : n ≤ 1000000) :
    Calls Try.prog 66 #[.slice A n c] w (CopyPost w 3 1 n (l.map (.int .i64))) := by
  obtain ⟨v', W2, hrun, ho, hb⟩ := copy_run (P := Try.prog) 62 62 3 _ 1 8 Try.underlying62 info_int rfl (by omega) w N A n c (l.map (.int .i64)) hx hN (one_ints l) (by unfold maxLen; omega) (by omega)
  have HRUN := Lib.hid hrun
  have HO := Lib.hid ho
  have HB := Lib.hid hb
  clear hrun ho hb
  go_enter Try.func66, Try.ntmps66
  go_wp2_with (first | (at_builtin; refine wpList_app _ W2 v' rfl _ _ _ rfl _ _ rfl rfl HRUN.out ?_))
  go_ret
  exact CopyPost.of HO.out HB.out

end Go.Proofs.Ytmioamcgbihhjaa
