import Derived.Test.YtgamepmipoociaaQ29

section
/- Contracts of the check of screws and of lowest terms; both sides. -/
namespace Go.Proofs.Ytgamepmipoociaa
open Go Go.RowKit

set_option maxRecDepth 100000 in
theorem pscrews_is (A : Option Addr) (n c : Nat) (l : List (Int × Int)) (E : Int) (hE : scrErr l = E) (w : World) (hx : Reads w w.heap.size 2 A n (cells2 l)) (hn : n ≤ 9223372036854775807) :
    Calls Try.prog 44 #[.slice A n c] w fun e w' => e = .returned (.int .i64 E) ∧ Below w.heap.size w w' := by
  have hl : l.length = n := by have := hx.1; rw [cells2_length] at this; omega
  by_cases h2 : n = 2
  rotate_left
  · have e1 : ((n : Int) != 2) = true := by simpa using (show (n : Int) ≠ 2 by omega)
    obtain rfl : E = 10 := by rw [← hE]; unfold scrErr; rw [if_pos (by omega)]
    clear hx hE hl
    go_enter Try.func44, Try.ntmps44
    go_wp2
    go_ret
    exact ⟨rfl, Below.refl _ _⟩
  subst h2
  obtain ⟨a0, a1, b0, b1, rfl⟩ := two_of hl
  have hE2 : E = if smallL 1000 (scr4 [(a0, a1), (b0, b1)]) = false then 2 else if scrDet [(a0, a1), (b0, b1)] = 0 then 11 else 0 := by rw [← hE]; unfold scrErr; rw [if_neg (by simp)]
  obtain ⟨xb, xo, rfl, hxb, c0, c1, c2, c3⟩ := hx.four
  clear hE hl
  obtain ⟨t, ht⟩ : ∃ t, smallL 1000 (scr4 [(a0, a1), (b0, b1)]) = t := ⟨_, rfl⟩
  have HT := Lib.hid ht
  have HX := Lib.hid hx
  rw [ht] at hE2
  have HE := Lib.hid hE2
  clear ht hx hE2
  go_enter Try.func44, Try.ntmps44
  go_wp2
  refine Fx.regionM (fun W g f w' => Kp (PfT ⟨0, 0, 0, 0, 0, none, 0, 0, [], none, 0, 0, []⟩ 0 [] 4 [a0, a1, b0, b1] 97 99 16) W g w') (fun i (x : Pick2) => .slice x.1.1 4 4) (by kernel_rfl) ?_ ?_
  · intro f hf0
    exact Kp.start
  first
  | (refine Fx.WM.skip 0 (by rfl) (by kernel_rfl) (by kernel_rfl) (by kernel_rfl) (by rfl) (fun g f w h => h) ?_; simp only [Act.put, List.setIfInBounds_toArray, List.set_cons_zero, List.set_cons_succ])
  | (refine Fx.WM.val_ 0 ?_ (by rfl) (by kernel_rfl) (by kernel_rfl) (by kernel_rfl) (by rfl) ?_ (fun g f w h => h) ?_
     rotate_left
     · intro g f w' hx hD hk
       obtain hkp := id hD
       have y0 := (hkp.bel.cell (p := ⟨xb, xo, none⟩) hxb).trans c0
       have y1 := (hkp.bel.cell (p := ⟨xb, xo + 1, none⟩) hxb).trans c1
       have y2 := (hkp.bel.cell (p := ⟨xb, xo + 2, none⟩) hxb).trans c2
       have y3 := (hkp.bel.cell (p := ⟨xb, xo + 2 + 1, none⟩) hxb).trans c3
       clear hx hk hD hkp
       go_simp
       try rfl
     simp only [Act.put, List.setIfInBounds_toArray, List.set_cons_zero, List.set_cons_succ])
  first
  | (refine Fx.WM.skip 1 (by rfl) (by kernel_rfl) (by kernel_rfl) (by kernel_rfl) (by rfl) (fun g f w h => h) ?_; simp only [Act.put, List.setIfInBounds_toArray, List.set_cons_zero, List.set_cons_succ])
  | (refine Fx.WM.val_ 1 ?_ (by rfl) (by kernel_rfl) (by kernel_rfl) (by kernel_rfl) (by rfl) ?_ (fun g f w h => h) ?_
     rotate_left
     · intro g f w' hx hD hk
       obtain hkp := id hD
       have y0 := (hkp.bel.cell (p := ⟨xb, xo, none⟩) hxb).trans c0
       have y1 := (hkp.bel.cell (p := ⟨xb, xo + 1, none⟩) hxb).trans c1
       have y2 := (hkp.bel.cell (p := ⟨xb, xo + 2, none⟩) hxb).trans c2
       have y3 := (hkp.bel.cell (p := ⟨xb, xo + 2 + 1, none⟩) hxb).trans c3
       clear hx hk hD hkp
       go_simp
       try rfl
     simp only [Act.put, List.setIfInBounds_toArray, List.set_cons_zero, List.set_cons_succ])
  first
  | (refine Fx.WM.skip 2 (by rfl) (by kernel_rfl) (by kernel_rfl) (by kernel_rfl) (by rfl) (fun g f w h => h) ?_; simp only [Act.put, List.setIfInBounds_toArray, List.set_cons_zero, List.set_cons_succ])
  | (refine Fx.WM.val_ 2 ?_ (by rfl) (by kernel_rfl) (by kernel_rfl) (by kernel_rfl) (by rfl) ?_ (fun g f w h => h) ?_
     rotate_left
     · intro g f w' hx hD hk
       obtain hkp := id hD
       have y0 := (hkp.bel.cell (p := ⟨xb, xo, none⟩) hxb).trans c0
       have y1 := (hkp.bel.cell (p := ⟨xb, xo + 1, none⟩) hxb).trans c1
       have y2 := (hkp.bel.cell (p := ⟨xb, xo + 2, none⟩) hxb).trans c2
       have y3 := (hkp.bel.cell (p := ⟨xb, xo + 2 + 1, none⟩) hxb).trans c3
       clear hx hk hD hkp
       go_simp
       try rfl
     simp only [Act.put, List.setIfInBounds_toArray, List.set_cons_zero, List.set_cons_succ])
  first
  | (refine Fx.WM.skip 3 (by rfl) (by kernel_rfl) (by kernel_rfl) (by kernel_rfl) (by rfl) (fun g f w h => h) ?_; simp only [Act.put, List.setIfInBounds_toArray, List.set_cons_zero, List.set_cons_succ])
  | (refine Fx.WM.val_ 3 ?_ (by rfl) (by kernel_rfl) (by kernel_rfl) (by kernel_rfl) (by rfl) ?_ (fun g f w h => h) ?_
     rotate_left
     · intro g f w' hx hD hk
       obtain hkp := id hD
       have y0 := (hkp.bel.cell (p := ⟨xb, xo, none⟩) hxb).trans c0
       have y1 := (hkp.bel.cell (p := ⟨xb, xo + 1, none⟩) hxb).trans c1
       have y2 := (hkp.bel.cell (p := ⟨xb, xo + 2, none⟩) hxb).trans c2
       have y3 := (hkp.bel.cell (p := ⟨xb, xo + 2 + 1, none⟩) hxb).trans c3
       clear hx hk hD hkp
       go_simp
       try rfl
     simp only [Act.put, List.setIfInBounds_toArray, List.set_cons_zero, List.set_cons_succ])
  first
  | (refine Fx.WM.skip 4 (by rfl) (by kernel_rfl) (by kernel_rfl) (by kernel_rfl) (by rfl) (fun g f w h => h) ?_; simp only [Act.put, List.setIfInBounds_toArray, List.set_cons_zero, List.set_cons_succ])
  | (refine Fx.WM.val_ 4 ?_ (by rfl) (by kernel_rfl) (by kernel_rfl) (by kernel_rfl) (by rfl) ?_ (fun g f w h => h) ?_
     rotate_left
     · intro g f w' hx hD hk
       obtain hkp := id hD
       have y0 := (hkp.bel.cell (p := ⟨xb, xo, none⟩) hxb).trans c0
       have y1 := (hkp.bel.cell (p := ⟨xb, xo + 1, none⟩) hxb).trans c1
       have y2 := (hkp.bel.cell (p := ⟨xb, xo + 2, none⟩) hxb).trans c2
       have y3 := (hkp.bel.cell (p := ⟨xb, xo + 2 + 1, none⟩) hxb).trans c3
       clear hx hk hD hkp
       go_simp
       try rfl
     simp only [Act.put, List.setIfInBounds_toArray, List.set_cons_zero, List.set_cons_succ])
  first
  | (refine Fx.WM.skip 5 (by rfl) (by kernel_rfl) (by kernel_rfl) (by kernel_rfl) (by rfl) (fun g f w h => h) ?_; simp only [Act.put, List.setIfInBounds_toArray, List.set_cons_zero, List.set_cons_succ])
  | (refine Fx.WM.val_ 5 ?_ (by rfl) (by kernel_rfl) (by kernel_rfl) (by kernel_rfl) (by rfl) ?_ (fun g f w h => h) ?_
     rotate_left
     · intro g f w' hx hD hk
       obtain hkp := id hD
       have y0 := (hkp.bel.cell (p := ⟨xb, xo, none⟩) hxb).trans c0
       have y1 := (hkp.bel.cell (p := ⟨xb, xo + 1, none⟩) hxb).trans c1
       have y2 := (hkp.bel.cell (p := ⟨xb, xo + 2, none⟩) hxb).trans c2
       have y3 := (hkp.bel.cell (p := ⟨xb, xo + 2 + 1, none⟩) hxb).trans c3
       clear hx hk hD hkp
       go_simp
       try rfl
     simp only [Act.put, List.setIfInBounds_toArray, List.set_cons_zero, List.set_cons_succ])
  first
  | (refine Fx.WM.skip 6 (by rfl) (by kernel_rfl) (by kernel_rfl) (by kernel_rfl) (by rfl) (fun g f w h => h) ?_; simp only [Act.put, List.setIfInBounds_toArray, List.set_cons_zero, List.set_cons_succ])
  | (refine Fx.WM.val_ 6 ?_ (by rfl) (by kernel_rfl) (by kernel_rfl) (by kernel_rfl) (by rfl) ?_ (fun g f w h => h) ?_
     rotate_left
     · intro g f w' hx hD hk
       obtain hkp := id hD
       have y0 := (hkp.bel.cell (p := ⟨xb, xo, none⟩) hxb).trans c0
       have y1 := (hkp.bel.cell (p := ⟨xb, xo + 1, none⟩) hxb).trans c1
       have y2 := (hkp.bel.cell (p := ⟨xb, xo + 2, none⟩) hxb).trans c2
       have y3 := (hkp.bel.cell (p := ⟨xb, xo + 2 + 1, none⟩) hxb).trans c3
       clear hx hk hD hkp
       go_simp
       try rfl
     simp only [Act.put, List.setIfInBounds_toArray, List.set_cons_zero, List.set_cons_succ])
  first
  | (refine Fx.WM.skip 7 (by rfl) (by kernel_rfl) (by kernel_rfl) (by kernel_rfl) (by rfl) (fun g f w h => h) ?_; simp only [Act.put, List.setIfInBounds_toArray, List.set_cons_zero, List.set_cons_succ])
  | (refine Fx.WM.val_ 7 ?_ (by rfl) (by kernel_rfl) (by kernel_rfl) (by kernel_rfl) (by rfl) ?_ (fun g f w h => h) ?_
     rotate_left
     · intro g f w' hx hD hk
       obtain hkp := id hD
       have y0 := (hkp.bel.cell (p := ⟨xb, xo, none⟩) hxb).trans c0
       have y1 := (hkp.bel.cell (p := ⟨xb, xo + 1, none⟩) hxb).trans c1
       have y2 := (hkp.bel.cell (p := ⟨xb, xo + 2, none⟩) hxb).trans c2
       have y3 := (hkp.bel.cell (p := ⟨xb, xo + 2 + 1, none⟩) hxb).trans c3
       clear hx hk hD hkp
       go_simp
       try rfl
     simp only [Act.put, List.setIfInBounds_toArray, List.set_cons_zero, List.set_cons_succ])
  first
  | (refine Fx.WM.skip 8 (by rfl) (by kernel_rfl) (by kernel_rfl) (by kernel_rfl) (by rfl) (fun g f w h => h) ?_; simp only [Act.put, List.setIfInBounds_toArray, List.set_cons_zero, List.set_cons_succ])
  | (refine Fx.WM.val_ 8 ?_ (by rfl) (by kernel_rfl) (by kernel_rfl) (by kernel_rfl) (by rfl) ?_ (fun g f w h => h) ?_
     rotate_left
     · intro g f w' hx hD hk
       obtain hkp := id hD
       have y0 := (hkp.bel.cell (p := ⟨xb, xo, none⟩) hxb).trans c0
       have y1 := (hkp.bel.cell (p := ⟨xb, xo + 1, none⟩) hxb).trans c1
       have y2 := (hkp.bel.cell (p := ⟨xb, xo + 2, none⟩) hxb).trans c2
       have y3 := (hkp.bel.cell (p := ⟨xb, xo + 2 + 1, none⟩) hxb).trans c3
       clear hx hk hD hkp
       go_simp
       try rfl
     simp only [Act.put, List.setIfInBounds_toArray, List.set_cons_zero, List.set_cons_succ])
  first
  | (refine Fx.WM.skip 9 (by rfl) (by kernel_rfl) (by kernel_rfl) (by kernel_rfl) (by rfl) (fun g f w h => h) ?_; simp only [Act.put, List.setIfInBounds_toArray, List.set_cons_zero, List.set_cons_succ])
  | (refine Fx.WM.val_ 9 ?_ (by rfl) (by kernel_rfl) (by kernel_rfl) (by kernel_rfl) (by rfl) ?_ (fun g f w h => h) ?_
     rotate_left
     · intro g f w' hx hD hk
       obtain hkp := id hD
       have y0 := (hkp.bel.cell (p := ⟨xb, xo, none⟩) hxb).trans c0
       have y1 := (hkp.bel.cell (p := ⟨xb, xo + 1, none⟩) hxb).trans c1
       have y2 := (hkp.bel.cell (p := ⟨xb, xo + 2, none⟩) hxb).trans c2
       have y3 := (hkp.bel.cell (p := ⟨xb, xo + 2 + 1, none⟩) hxb).trans c3
       clear hx hk hD hkp
       go_simp
       try rfl
     simp only [Act.put, List.setIfInBounds_toArray, List.set_cons_zero, List.set_cons_succ])
  first
  | (refine Fx.WM.skip 10 (by rfl) (by kernel_rfl) (by kernel_rfl) (by kernel_rfl) (by rfl) (fun g f w h => h) ?_; simp only [Act.put, List.setIfInBounds_toArray, List.set_cons_zero, List.set_cons_succ])
  | (refine Fx.WM.val_ 10 ?_ (by rfl) (by kernel_rfl) (by kernel_rfl) (by kernel_rfl) (by rfl) ?_ (fun g f w h => h) ?_
     rotate_left
     · intro g f w' hx hD hk
       obtain hkp := id hD
       have y0 := (hkp.bel.cell (p := ⟨xb, xo, none⟩) hxb).trans c0
       have y1 := (hkp.bel.cell (p := ⟨xb, xo + 1, none⟩) hxb).trans c1
       have y2 := (hkp.bel.cell (p := ⟨xb, xo + 2, none⟩) hxb).trans c2
       have y3 := (hkp.bel.cell (p := ⟨xb, xo + 2 + 1, none⟩) hxb).trans c3
       clear hx hk hD hkp
       go_simp
       try rfl
     simp only [Act.put, List.setIfInBounds_toArray, List.set_cons_zero, List.set_cons_succ])
  first
  | (refine Fx.WM.skip 11 (by rfl) (by kernel_rfl) (by kernel_rfl) (by kernel_rfl) (by rfl) (fun g f w h => h) ?_; simp only [Act.put, List.setIfInBounds_toArray, List.set_cons_zero, List.set_cons_succ])
  | (refine Fx.WM.val_ 11 ?_ (by rfl) (by kernel_rfl) (by kernel_rfl) (by kernel_rfl) (by rfl) ?_ (fun g f w h => h) ?_
     rotate_left
     · intro g f w' hx hD hk
       obtain hkp := id hD
       have y0 := (hkp.bel.cell (p := ⟨xb, xo, none⟩) hxb).trans c0
       have y1 := (hkp.bel.cell (p := ⟨xb, xo + 1, none⟩) hxb).trans c1
       have y2 := (hkp.bel.cell (p := ⟨xb, xo + 2, none⟩) hxb).trans c2
       have y3 := (hkp.bel.cell (p := ⟨xb, xo + 2 + 1, none⟩) hxb).trans c3
       clear hx hk hD hkp
       go_simp
       try rfl
     simp only [Act.put, List.setIfInBounds_toArray, List.set_cons_zero, List.set_cons_succ])
  first
  | (refine Fx.WM.skip 12 (by rfl) (by kernel_rfl) (by kernel_rfl) (by kernel_rfl) (by rfl) (fun g f w h => h) ?_; simp only [Act.put, List.setIfInBounds_toArray, List.set_cons_zero, List.set_cons_succ])
  | (refine Fx.WM.val_ 12 ?_ (by rfl) (by kernel_rfl) (by kernel_rfl) (by kernel_rfl) (by rfl) ?_ (fun g f w h => h) ?_
     rotate_left
     · intro g f w' hx hD hk
       obtain hkp := id hD
       have y0 := (hkp.bel.cell (p := ⟨xb, xo, none⟩) hxb).trans c0
       have y1 := (hkp.bel.cell (p := ⟨xb, xo + 1, none⟩) hxb).trans c1
       have y2 := (hkp.bel.cell (p := ⟨xb, xo + 2, none⟩) hxb).trans c2
       have y3 := (hkp.bel.cell (p := ⟨xb, xo + 2 + 1, none⟩) hxb).trans c3
       clear hx hk hD hkp
       go_simp
       try rfl
     simp only [Act.put, List.setIfInBounds_toArray, List.set_cons_zero, List.set_cons_succ])
  first
  | (refine Fx.WM.skip 13 (by rfl) (by kernel_rfl) (by kernel_rfl) (by kernel_rfl) (by rfl) (fun g f w h => h) ?_; simp only [Act.put, List.setIfInBounds_toArray, List.set_cons_zero, List.set_cons_succ])
  | (refine Fx.WM.val_ 13 ?_ (by rfl) (by kernel_rfl) (by kernel_rfl) (by kernel_rfl) (by rfl) ?_ (fun g f w h => h) ?_
     rotate_left
     · intro g f w' hx hD hk
       obtain hkp := id hD
       have y0 := (hkp.bel.cell (p := ⟨xb, xo, none⟩) hxb).trans c0
       have y1 := (hkp.bel.cell (p := ⟨xb, xo + 1, none⟩) hxb).trans c1
       have y2 := (hkp.bel.cell (p := ⟨xb, xo + 2, none⟩) hxb).trans c2
       have y3 := (hkp.bel.cell (p := ⟨xb, xo + 2 + 1, none⟩) hxb).trans c3
       clear hx hk hD hkp
       go_simp
       try rfl
     simp only [Act.put, List.setIfInBounds_toArray, List.set_cons_zero, List.set_cons_succ])
  first
  | (refine Fx.WM.skip 14 (by rfl) (by kernel_rfl) (by kernel_rfl) (by kernel_rfl) (by rfl) (fun g f w h => h) ?_; simp only [Act.put, List.setIfInBounds_toArray, List.set_cons_zero, List.set_cons_succ])
  | (refine Fx.WM.val_ 14 ?_ (by rfl) (by kernel_rfl) (by kernel_rfl) (by kernel_rfl) (by rfl) ?_ (fun g f w h => h) ?_
     rotate_left
     · intro g f w' hx hD hk
       obtain hkp := id hD
       have y0 := (hkp.bel.cell (p := ⟨xb, xo, none⟩) hxb).trans c0
       have y1 := (hkp.bel.cell (p := ⟨xb, xo + 1, none⟩) hxb).trans c1
       have y2 := (hkp.bel.cell (p := ⟨xb, xo + 2, none⟩) hxb).trans c2
       have y3 := (hkp.bel.cell (p := ⟨xb, xo + 2 + 1, none⟩) hxb).trans c3
       clear hx hk hD hkp
       go_simp
       try rfl
     simp only [Act.put, List.setIfInBounds_toArray, List.set_cons_zero, List.set_cons_succ])
  first
  | (refine Fx.WM.skip 15 (by rfl) (by kernel_rfl) (by kernel_rfl) (by kernel_rfl) (by rfl) (fun g f w h => h) ?_; simp only [Act.put, List.setIfInBounds_toArray, List.set_cons_zero, List.set_cons_succ])
  | (refine Fx.WM.val_ 15 ?_ (by rfl) (by kernel_rfl) (by kernel_rfl) (by kernel_rfl) (by rfl) ?_ (fun g f w h => h) ?_
     rotate_left
     · intro g f w' hx hD hk
       obtain hkp := id hD
       have y0 := (hkp.bel.cell (p := ⟨xb, xo, none⟩) hxb).trans c0
       have y1 := (hkp.bel.cell (p := ⟨xb, xo + 1, none⟩) hxb).trans c1
       have y2 := (hkp.bel.cell (p := ⟨xb, xo + 2, none⟩) hxb).trans c2
       have y3 := (hkp.bel.cell (p := ⟨xb, xo + 2 + 1, none⟩) hxb).trans c3
       clear hx hk hD hkp
       go_simp
       try rfl
     simp only [Act.put, List.setIfInBounds_toArray, List.set_cons_zero, List.set_cons_succ])
  refine Fx.WM.choose 16 (by rfl) (by kernel_rfl) (by rfl) ?_ ?_
  · skip
    refine Fx.Chooses.make (by rfl) ?_
    intro f w' hD hk
    refine ⟨((some ⟨w'.heap.size, 0, none⟩, 4), (none, 0)), w'.alloc (.cells #[.int .i64 (a0), .int .i64 (a1), .int .i64 (b0), .int .i64 (b1)] 3), ?_, ?_⟩
    · clear hk hD
      go_simp
      try rfl
    · exact hD.choose PfT.stb ((Below.refl _ _).alloc (Nat.le_refl _) _) 16 _ ⟨fun e => absurd e (by decide), fun e => absurd e (by decide), fun _ => ⟨Blk.reads (Blk.new _ _ _) rfl, ⟨Nat.le_refl _, by show 4 ≤ _; omega⟩⟩⟩
  intro x
  simp only [Act.put, List.setIfInBounds_toArray, List.set_cons_zero, List.set_cons_succ]
  refine Fx.WM.call 17 (.bool t) ?_ ?_ (by rfl) (by kernel_rfl) (by kernel_rfl) (by kernel_rfl) (by rfl) ?_ ?_ ?_
  rotate_left 2
  · intro w'
    go_simp
    refine ⟨?_, ?_⟩ <;> rfl
  · intro g f w' hx hD hk
    exact (smallpt_is 1000 x.1.1 4 4 _ [a0, a1, b0, b1] t HT.out w' (by omega) (by omega) ((hD.has 16 x (hx 16 _ (by rfl))).2.2 rfl).1 (Nat.le_refl _) (by omega)).mono fun e w'' ⟨he, hw⟩ => ⟨he, hD.call PfT.stb hw⟩
  simp only [Act.put, List.setIfInBounds_toArray, List.set_cons_zero, List.set_cons_succ]
  first
  | (refine Fx.WM.skip 18 (by rfl) (by kernel_rfl) (by kernel_rfl) (by kernel_rfl) (by rfl) (fun g f w h => h) ?_; simp only [Act.put, List.setIfInBounds_toArray, List.set_cons_zero, List.set_cons_succ])
  | (refine Fx.WM.val_ 18 ?_ (by rfl) (by kernel_rfl) (by kernel_rfl) (by kernel_rfl) (by rfl) ?_ (fun g f w h => h) ?_
     rotate_left
     · intro g f w' hx hD hk
       obtain hkp := id hD
       clear hx hk hD hkp
       go_simp
       try rfl
     simp only [Act.put, List.setIfInBounds_toArray, List.set_cons_zero, List.set_cons_succ])
  first
  | (refine Fx.WM.skip 19 (by rfl) (by kernel_rfl) (by kernel_rfl) (by kernel_rfl) (by rfl) (fun g f w h => h) ?_; simp only [Act.put, List.setIfInBounds_toArray, List.set_cons_zero, List.set_cons_succ])
  | (refine Fx.WM.val_ 19 ?_ (by rfl) (by kernel_rfl) (by kernel_rfl) (by kernel_rfl) (by rfl) ?_ (fun g f w h => h) ?_
     rotate_left
     · intro g f w' hx hD hk
       obtain hkp := id hD
       clear hx hk hD hkp
       go_simp
       try rfl
     simp only [Act.put, List.setIfInBounds_toArray, List.set_cons_zero, List.set_cons_succ])
  refine Fx.WM.nil (by kernel_rfl) ?_
  intro wz hkp
  have hb := hkp.bel
  clear hkp
  obtain ⟨w1, hnm⟩ : ∃ z : World, z = wz := ⟨_, rfl⟩
  subst hnm
  have HB1 := Lib.hid hb
  have hrx := Lib.hid ((HX.out.below hb).more hb.size)
  clear hb
  cases t
  · obtain rfl : E = 2 := by rw [HE.out]; simp
    go_wp2
    go_ret
    exact ⟨rfl, HB1.out⟩
  obtain ⟨d, hd⟩ : ∃ d, a0 * b1 - b0 * a1 = d := ⟨_, rfl⟩
  have hE3 : E = if d = 0 then 11 else 0 := by have h := HE.out; rw [if_neg (by simp)] at h; rw [h, ← hd]; rfl
  have HDD := Lib.hid hd
  clear hd
  go_wp2_with fail
  refine (area_is _ c _ a0 a1 b0 b1 d HDD.out HT.out _ hrx.out).mono ?_
  rintro e w2 ⟨rfl, q, rfl⟩
  by_cases h0 : d = 0
  · have e1 : (d == 0) = true := by simpa using h0
    obtain rfl : E = 11 := by rw [hE3, if_pos h0]
    clear h0 hE3
    go_wp2
    go_ret
    exact ⟨rfl, below_drewN HB1.out _⟩
  · have e1 : (d == 0) = false := by simpa using h0
    obtain rfl : E = 0 := by rw [hE3, if_neg h0]
    clear hE3
    go_wp2
    go_ret
    exact ⟨rfl, below_drewN HB1.out _⟩

set_option maxRecDepth 100000 in
theorem rscrews_is (A : Option Addr) (n c : Nat) (l : List (Int × Int)) (E : Int) (hE : scrErr l = E) (w : World) (hx : Reads w w.heap.size 2 A n (cells2 l)) (hn : n ≤ 9223372036854775807) :
    Calls Try.prog 43 #[.slice A n c] w fun e w' => e = .returned (.int .i64 E) ∧ Below w.heap.size w w' := by
  have hl : l.length = n := by have := hx.1; rw [cells2_length] at this; omega
  by_cases h2 : n = 2
  rotate_left
  · have e1 : ((n : Int) != 2) = true := by simpa using (show (n : Int) ≠ 2 by omega)
    obtain rfl : E = 10 := by rw [← hE]; unfold scrErr; rw [if_pos (by omega)]
    clear hx hE hl
    go_enter Try.func43, Try.ntmps43
    go_wp2
    go_ret
    exact ⟨rfl, Below.refl _ _⟩
  subst h2
  obtain ⟨a0, a1, b0, b1, rfl⟩ := two_of hl
  have hE2 : E = if smallL 1000 (scr4 [(a0, a1), (b0, b1)]) = false then 2 else if scrDet [(a0, a1), (b0, b1)] = 0 then 11 else 0 := by rw [← hE]; unfold scrErr; rw [if_neg (by simp)]
  obtain ⟨xb, xo, rfl, hxb, c0, c1, c2, c3⟩ := hx.four
  have hs4 : smallL 1000 (scr4 [(a0, a1), (b0, b1)]) = (withinB a0 (-1000) 1000 && (withinB a1 (-1000) 1000 && (withinB b0 (-1000) 1000 && withinB b1 (-1000) 1000))) := by simp [scr4, smallL]
  clear hE hl
  obtain ⟨t0, ht0⟩ : ∃ t, withinB a0 (-1000) 1000 = t := ⟨_, rfl⟩
  obtain ⟨t1, ht1⟩ : ∃ t, withinB a1 (-1000) 1000 = t := ⟨_, rfl⟩
  obtain ⟨t2, ht2⟩ : ∃ t, withinB b0 (-1000) 1000 = t := ⟨_, rfl⟩
  obtain ⟨t3, ht3⟩ : ∃ t, withinB b1 (-1000) 1000 = t := ⟨_, rfl⟩
  rw [ht0, ht1, ht2, ht3] at hs4
  have H0 := Lib.hid ht0
  have H1 := Lib.hid ht1
  have H2 := Lib.hid ht2
  have H3 := Lib.hid ht3
  have HS := Lib.hid hs4
  have HE := Lib.hid hE2
  clear ht0 ht1 ht2 ht3 hs4 hE2 hx
  go_enter Try.func43, Try.ntmps43
  go_wp2
  refine wp_loop_rounds 3 ?_
  rw [rounds_succ]
  go_wp2_with fail
  refine (withinref_is _ _ _ t0 H0.out _).mono ?_
  rintro e w' ⟨rfl, rfl⟩
  cases t0
  · obtain rfl : E = 2 := by rw [HE.out, HS.out]; simp
    go_wp2
    go_ret
    exact ⟨rfl, Below.refl _ _⟩
  go_wp2_with fail
  refine (withinref_is _ _ _ t1 H1.out _).mono ?_
  rintro e w' ⟨rfl, rfl⟩
  cases t1
  · obtain rfl : E = 2 := by rw [HE.out, HS.out]; simp
    go_wp2
    go_ret
    exact ⟨rfl, Below.refl _ _⟩
  go_wp2_with fail
  rw [rounds_succ]
  go_wp2_with fail
  refine (withinref_is _ _ _ t2 H2.out _).mono ?_
  rintro e w' ⟨rfl, rfl⟩
  cases t2
  · obtain rfl : E = 2 := by rw [HE.out, HS.out]; simp
    go_wp2
    go_ret
    exact ⟨rfl, Below.refl _ _⟩
  go_wp2_with fail
  refine (withinref_is _ _ _ t3 H3.out _).mono ?_
  rintro e w' ⟨rfl, rfl⟩
  cases t3
  · obtain rfl : E = 2 := by rw [HE.out, HS.out]; simp
    go_wp2
    go_ret
    exact ⟨rfl, Below.refl _ _⟩
  obtain ⟨d, hd⟩ : ∃ d, a0 * b1 - b0 * a1 = d := ⟨_, rfl⟩
  have hE3 : E = if d = 0 then 11 else 0 := by have h := HE.out; rw [if_neg (by rw [HS.out]; simp)] at h; rw [h, ← hd]; rfl
  have hd' : a0 * b1 - a1 * b0 = d := by rw [← hd, Int.mul_comm a1 b0]
  have HDD := Lib.hid hd'
  have g0 := (withinB_iff _ _ _).1 H0.out
  have g1 := (withinB_iff _ _ _).1 H1.out
  have g2 := (withinB_iff _ _ _).1 H2.out
  have g3 := (withinB_iff _ _ _).1 H3.out
  clear hd hd'
  go_wp2
  rw [rounds_succ]
  go_wp2
  refine Fx.regionM (fun W g f w' => Kp (PfT ⟨0, 0, 0, 0, 0, none, 0, 0, [], none, 0, 0, []⟩ 0 [] 0 [] 97 99 98) W g w') (fun i (x : Pick2) => undef) (by kernel_rfl) ?_ ?_
  · intro f hf0
    exact Kp.start
  first
  | (refine Fx.WM.skip 0 (by rfl) (by kernel_rfl) (by kernel_rfl) (by kernel_rfl) (by rfl) (fun g f w h => h) ?_; simp only [Act.put, List.setIfInBounds_toArray, List.set_cons_zero, List.set_cons_succ])
  | (refine Fx.WM.val_ 0 ?_ (by rfl) (by kernel_rfl) (by kernel_rfl) (by kernel_rfl) (by rfl) ?_ (fun g f w h => h) ?_
     rotate_left
     · intro g f w' hx hD hk
       obtain hkp := id hD
       have y0 := (hkp.bel.cell (p := ⟨xb, xo, none⟩) hxb).trans c0
       have y1 := (hkp.bel.cell (p := ⟨xb, xo + 1, none⟩) hxb).trans c1
       have y2 := (hkp.bel.cell (p := ⟨xb, xo + 2, none⟩) hxb).trans c2
       have y3 := (hkp.bel.cell (p := ⟨xb, xo + 2 + 1, none⟩) hxb).trans c3
       clear hx hk hD hkp
       go_simp
       try rfl
     simp only [Act.put, List.setIfInBounds_toArray, List.set_cons_zero, List.set_cons_succ])
  first
  | (refine Fx.WM.skip 1 (by rfl) (by kernel_rfl) (by kernel_rfl) (by kernel_rfl) (by rfl) (fun g f w h => h) ?_; simp only [Act.put, List.setIfInBounds_toArray, List.set_cons_zero, List.set_cons_succ])
  | (refine Fx.WM.val_ 1 ?_ (by rfl) (by kernel_rfl) (by kernel_rfl) (by kernel_rfl) (by rfl) ?_ (fun g f w h => h) ?_
     rotate_left
     · intro g f w' hx hD hk
       obtain hkp := id hD
       have y0 := (hkp.bel.cell (p := ⟨xb, xo, none⟩) hxb).trans c0
       have y1 := (hkp.bel.cell (p := ⟨xb, xo + 1, none⟩) hxb).trans c1
       have y2 := (hkp.bel.cell (p := ⟨xb, xo + 2, none⟩) hxb).trans c2
       have y3 := (hkp.bel.cell (p := ⟨xb, xo + 2 + 1, none⟩) hxb).trans c3
       clear hx hk hD hkp
       go_simp
       try rfl
     simp only [Act.put, List.setIfInBounds_toArray, List.set_cons_zero, List.set_cons_succ])
  first
  | (refine Fx.WM.skip 2 (by rfl) (by kernel_rfl) (by kernel_rfl) (by kernel_rfl) (by rfl) (fun g f w h => h) ?_; simp only [Act.put, List.setIfInBounds_toArray, List.set_cons_zero, List.set_cons_succ])
  | (refine Fx.WM.val_ 2 ?_ (by rfl) (by kernel_rfl) (by kernel_rfl) (by kernel_rfl) (by rfl) ?_ (fun g f w h => h) ?_
     rotate_left
     · intro g f w' hx hD hk
       obtain hkp := id hD
       have y0 := (hkp.bel.cell (p := ⟨xb, xo, none⟩) hxb).trans c0
       have y1 := (hkp.bel.cell (p := ⟨xb, xo + 1, none⟩) hxb).trans c1
       have y2 := (hkp.bel.cell (p := ⟨xb, xo + 2, none⟩) hxb).trans c2
       have y3 := (hkp.bel.cell (p := ⟨xb, xo + 2 + 1, none⟩) hxb).trans c3
       clear hx hk hD hkp
       go_simp
       try rfl
     simp only [Act.put, List.setIfInBounds_toArray, List.set_cons_zero, List.set_cons_succ])
  first
  | (refine Fx.WM.skip 3 (by rfl) (by kernel_rfl) (by kernel_rfl) (by kernel_rfl) (by rfl) (fun g f w h => h) ?_; simp only [Act.put, List.setIfInBounds_toArray, List.set_cons_zero, List.set_cons_succ])
  | (refine Fx.WM.val_ 3 ?_ (by rfl) (by kernel_rfl) (by kernel_rfl) (by kernel_rfl) (by rfl) ?_ (fun g f w h => h) ?_
     rotate_left
     · intro g f w' hx hD hk
       obtain hkp := id hD
       have y0 := (hkp.bel.cell (p := ⟨xb, xo, none⟩) hxb).trans c0
       have y1 := (hkp.bel.cell (p := ⟨xb, xo + 1, none⟩) hxb).trans c1
       have y2 := (hkp.bel.cell (p := ⟨xb, xo + 2, none⟩) hxb).trans c2
       have y3 := (hkp.bel.cell (p := ⟨xb, xo + 2 + 1, none⟩) hxb).trans c3
       clear hx hk hD hkp
       go_simp
       try rfl
     simp only [Act.put, List.setIfInBounds_toArray, List.set_cons_zero, List.set_cons_succ])
  first
  | (refine Fx.WM.skip 4 (by rfl) (by kernel_rfl) (by kernel_rfl) (by kernel_rfl) (by rfl) (fun g f w h => h) ?_; simp only [Act.put, List.setIfInBounds_toArray, List.set_cons_zero, List.set_cons_succ])
  | (refine Fx.WM.val_ 4 ?_ (by rfl) (by kernel_rfl) (by kernel_rfl) (by kernel_rfl) (by rfl) ?_ (fun g f w h => h) ?_
     rotate_left
     · intro g f w' hx hD hk
       obtain hkp := id hD
       have y0 := (hkp.bel.cell (p := ⟨xb, xo, none⟩) hxb).trans c0
       have y1 := (hkp.bel.cell (p := ⟨xb, xo + 1, none⟩) hxb).trans c1
       have y2 := (hkp.bel.cell (p := ⟨xb, xo + 2, none⟩) hxb).trans c2
       have y3 := (hkp.bel.cell (p := ⟨xb, xo + 2 + 1, none⟩) hxb).trans c3
       clear hx hk hD hkp
       go_simp
       try rfl
     simp only [Act.put, List.setIfInBounds_toArray, List.set_cons_zero, List.set_cons_succ])
  first
  | (refine Fx.WM.skip 5 (by rfl) (by kernel_rfl) (by kernel_rfl) (by kernel_rfl) (by rfl) (fun g f w h => h) ?_; simp only [Act.put, List.setIfInBounds_toArray, List.set_cons_zero, List.set_cons_succ])
  | (refine Fx.WM.val_ 5 ?_ (by rfl) (by kernel_rfl) (by kernel_rfl) (by kernel_rfl) (by rfl) ?_ (fun g f w h => h) ?_
     rotate_left
     · intro g f w' hx hD hk
       obtain hkp := id hD
       have y0 := (hkp.bel.cell (p := ⟨xb, xo, none⟩) hxb).trans c0
       have y1 := (hkp.bel.cell (p := ⟨xb, xo + 1, none⟩) hxb).trans c1
       have y2 := (hkp.bel.cell (p := ⟨xb, xo + 2, none⟩) hxb).trans c2
       have y3 := (hkp.bel.cell (p := ⟨xb, xo + 2 + 1, none⟩) hxb).trans c3
       clear hx hk hD hkp
       go_simp
       try rfl
     simp only [Act.put, List.setIfInBounds_toArray, List.set_cons_zero, List.set_cons_succ])
  refine Fx.WM.call 6 (.int .i64 (d)) ?_ ?_ (by rfl) (by kernel_rfl) (by kernel_rfl) (by kernel_rfl) (by rfl) ?_ ?_ ?_
  rotate_left 2
  · intro w'
    go_simp
    refine ⟨?_, ?_⟩ <;> rfl
  · intro g f w' hx hD hk
    exact (rcross_is a0 a1 b0 b1 d HDD.out w' ⟨by omega, by omega⟩ ⟨by omega, by omega⟩ ⟨by omega, by omega⟩ ⟨by omega, by omega⟩).mono fun e w'' ⟨he, hw⟩ => ⟨he, hD.call PfT.stb hw⟩
  simp only [Act.put, List.setIfInBounds_toArray, List.set_cons_zero, List.set_cons_succ]
  first
  | (refine Fx.WM.skip 7 (by rfl) (by kernel_rfl) (by kernel_rfl) (by kernel_rfl) (by rfl) (fun g f w h => h) ?_; simp only [Act.put, List.setIfInBounds_toArray, List.set_cons_zero, List.set_cons_succ])
  | (refine Fx.WM.val_ 7 ?_ (by rfl) (by kernel_rfl) (by kernel_rfl) (by kernel_rfl) (by rfl) ?_ (fun g f w h => h) ?_
     rotate_left
     · intro g f w' hx hD hk
       obtain hkp := id hD
       clear hx hk hD hkp
       go_simp
       try rfl
     simp only [Act.put, List.setIfInBounds_toArray, List.set_cons_zero, List.set_cons_succ])
  refine Fx.WM.nil (by kernel_rfl) ?_
  intro wz hkp
  have hb := hkp.bel
  clear hkp
  by_cases h0 : d = 0
  · have e1 : (d == 0) = true := by simpa using h0
    obtain rfl : E = 11 := by rw [hE3, if_pos h0]
    clear h0 hE3
    go_wp2
    go_ret
    exact ⟨rfl, hb⟩
  · have e1 : (d == 0) = false := by simpa using h0
    obtain rfl : E = 0 := by rw [hE3, if_neg h0]
    clear hE3
    go_wp2
    go_ret
    exact ⟨rfl, hb⟩

theorem gcd_neg9 (a b : Int) : Int.gcd (-a) (-b) = Int.gcd a b := by rw [Int.gcd_neg, Int.neg_gcd]
set_option maxRecDepth 100000 in
theorem plow_neg (a b x y : Int) (hx : redN (-a) (-b) = x) (hy : redD (-a) (-b) = y) (w : World) (h1 : -4000000000000000000 ≤ a) (h2 : a ≤ 4000000000000000000) (h3 : b ≤ -1) (h4 : -4000000000000000000 ≤ b) :
    Calls Try.prog 89 #[.int .i64 a, .int .i64 b] w fun e w' => e = .returned (.agg #[.int .i64 x, .int .i64 y]) ∧ Below w.heap.size w w' := by
  have hp : 0 < Int.gcd a b := Int.gcd_pos_of_ne_zero_right a (by omega)
  have hle : (Int.gcd a b : Int) ≤ 4000000000000000000 := by
    have := Int.gcd_le_natAbs_right a (b := b) (by omega)
    omega
  have e1 : a.tdiv (-(Int.gcd a b : Int)) = x := by
    rw [← hx]
    unfold redN
    rw [gcd_neg9, Int.tdiv_neg, tdiv_gcd_left, Int.neg_ediv_of_dvd (Int.gcd_dvd_left a b)]
  have e2 : b.tdiv (-(Int.gcd a b : Int)) = y := by
    rw [← hy]
    unfold redD
    rw [gcd_neg9, Int.tdiv_neg, tdiv_gcd_right, Int.neg_ediv_of_dvd (Int.gcd_dvd_right a b)]
  obtain ⟨x1, x2, y1, y2⟩ := red_in (a := -a) (b := -b) (by omega) (by omega) (by omega) (by omega)
  rw [hx] at x1 x2
  rw [hy] at y1 y2
  have v1 := IntWalk.i64_in x ⟨by omega, by omega⟩
  have v2 := IntWalk.i64_in y ⟨by omega, by omega⟩
  have hgw : wrap64 (Int.gcd a b : Int) = (Int.gcd a b : Int) := IntWalk.wrap64_in _ ⟨by omega, by omega⟩
  obtain ⟨g, hg⟩ : ∃ g, (Int.gcd a b : Int) = g := ⟨_, rfl⟩
  rw [hg] at e1 e2 hgw hle
  have hg1 : 1 ≤ g := by omega
  have v3 := IntWalk.i64_in (-g) ⟨by omega, by omega⟩
  have g0 : ¬ -g = 0 := by omega
  have g0' : ¬ g = 0 := by omega
  have HG := Lib.hid hg
  have HGW := Lib.hid hgw
  clear hx hy hg hgw hp
  go_enter Try.func89, Try.ntmps89
  go_wp2_with fail
  refine (gcdpt_any _ _ _ (by omega) (by omega) (by omega) (by omega)).mono ?_
  rintro en w' ⟨rfl, nq, rfl⟩
  rw [HG.out, HGW.out]
  go_wp2
  go_region
  all_goals go_wp2
  all_goals exact bodyPost_ret (v := .agg #[.int .i64 x, .int .i64 y]) (by simp [results, Try.results89, go_sem]) rfl ⟨rfl, by repeat' (first | exact Below.refl _ _ | exact HB0.out | refine below_drewN ?_ _ | refine Below.drew ?_ | refine Below.alloc ?_ (by first | omega | (simp; done) | (simp; omega) | (simp [World.setCell]; omega)) _ | refine Below.setCell ?_ (by first | omega | (simp; done) | (simp; omega)) _ | assumption)⟩
set_option maxRecDepth 100000 in
theorem plow_pos (a b x y : Int) (hx : redN a b = x) (hy : redD a b = y) (w : World) (h1 : -4000000000000000000 ≤ a) (h2 : a ≤ 4000000000000000000) (h3 : 1 ≤ b) (h4 : b ≤ 4000000000000000000) :
    Calls Try.prog 89 #[.int .i64 a, .int .i64 b] w fun e w' => e = .returned (.agg #[.int .i64 x, .int .i64 y]) ∧ Below w.heap.size w w' := by
  have hp : 0 < Int.gcd a b := Int.gcd_pos_of_ne_zero_right a (by omega)
  have hle : (Int.gcd a b : Int) ≤ 4000000000000000000 := by
    have := Int.gcd_le_natAbs_right a (b := b) (by omega)
    omega
  have e1 : a.tdiv ((Int.gcd a b : Int)) = x := by
    rw [← hx]
    unfold redN
    rw [tdiv_gcd_left]
  have e2 : b.tdiv ((Int.gcd a b : Int)) = y := by
    rw [← hy]
    unfold redD
    rw [tdiv_gcd_right]
  obtain ⟨x1, x2, y1, y2⟩ := red_in (a := a) (b := b) (by omega) (by omega) (by omega) (by omega)
  rw [hx] at x1 x2
  rw [hy] at y1 y2
  have v1 := IntWalk.i64_in x ⟨by omega, by omega⟩
  have v2 := IntWalk.i64_in y ⟨by omega, by omega⟩
  have hgw : wrap64 (Int.gcd a b : Int) = (Int.gcd a b : Int) := IntWalk.wrap64_in _ ⟨by omega, by omega⟩
  obtain ⟨g, hg⟩ : ∃ g, (Int.gcd a b : Int) = g := ⟨_, rfl⟩
  rw [hg] at e1 e2 hgw hle
  have hg1 : 1 ≤ g := by omega
  have v3 := IntWalk.i64_in (-g) ⟨by omega, by omega⟩
  have g0 : ¬ -g = 0 := by omega
  have g0' : ¬ g = 0 := by omega
  have HG := Lib.hid hg
  have HGW := Lib.hid hgw
  clear hx hy hg hgw hp
  go_enter Try.func89, Try.ntmps89
  go_wp2_with fail
  refine (gcdpt_any _ _ _ (by omega) (by omega) (by omega) (by omega)).mono ?_
  rintro en w' ⟨rfl, nq, rfl⟩
  rw [HG.out, HGW.out]
  go_wp2
  go_region
  all_goals go_wp2
  all_goals exact bodyPost_ret (v := .agg #[.int .i64 x, .int .i64 y]) (by simp [results, Try.results89, go_sem]) rfl ⟨rfl, by repeat' (first | exact Below.refl _ _ | exact HB0.out | refine below_drewN ?_ _ | refine Below.drew ?_ | refine Below.alloc ?_ (by first | omega | (simp; done) | (simp; omega) | (simp [World.setCell]; omega)) _ | refine Below.setCell ?_ (by first | omega | (simp; done) | (simp; omega)) _ | assumption)⟩
set_option maxRecDepth 100000 in
theorem rlow_neg (a b x y : Int) (hx : redN (-a) (-b) = x) (hy : redD (-a) (-b) = y) (w : World) (h1 : -4000000000000000000 ≤ a) (h2 : a ≤ 4000000000000000000) (h3 : b ≤ -1) (h4 : -4000000000000000000 ≤ b) :
    Calls Try.prog 92 #[.int .i64 a, .int .i64 b] w fun e w' => e = .returned (.agg #[.int .i64 x, .int .i64 y]) ∧ Below w.heap.size w w' := by
  have hp : 0 < Int.gcd a b := Int.gcd_pos_of_ne_zero_right a (by omega)
  have hle : (Int.gcd a b : Int) ≤ 4000000000000000000 := by
    have := Int.gcd_le_natAbs_right a (b := b) (by omega)
    omega
  have e1 : a.tdiv (-(Int.gcd a b : Int)) = x := by
    rw [← hx]
    unfold redN
    rw [gcd_neg9, Int.tdiv_neg, tdiv_gcd_left, Int.neg_ediv_of_dvd (Int.gcd_dvd_left a b)]
  have e2 : b.tdiv (-(Int.gcd a b : Int)) = y := by
    rw [← hy]
    unfold redD
    rw [gcd_neg9, Int.tdiv_neg, tdiv_gcd_right, Int.neg_ediv_of_dvd (Int.gcd_dvd_right a b)]
  obtain ⟨x1, x2, y1, y2⟩ := red_in (a := -a) (b := -b) (by omega) (by omega) (by omega) (by omega)
  rw [hx] at x1 x2
  rw [hy] at y1 y2
  have v1 := IntWalk.i64_in x ⟨by omega, by omega⟩
  have v2 := IntWalk.i64_in y ⟨by omega, by omega⟩
  have hgw : wrap64 (Int.gcd a b : Int) = (Int.gcd a b : Int) := IntWalk.wrap64_in _ ⟨by omega, by omega⟩
  obtain ⟨g, hg⟩ : ∃ g, (Int.gcd a b : Int) = g := ⟨_, rfl⟩
  rw [hg] at e1 e2 hgw hle
  have hg1 : 1 ≤ g := by omega
  have v3 := IntWalk.i64_in (-g) ⟨by omega, by omega⟩
  have g0 : ¬ -g = 0 := by omega
  have g0' : ¬ g = 0 := by omega
  have HG := Lib.hid hg
  have HGW := Lib.hid hgw
  clear hx hy hg hgw hp
  go_enter Try.func92, Try.ntmps92
  go_wp2_with fail
  refine (gcdref_any _ _ _ (by omega) (by omega) (by omega) (by omega)).mono ?_
  rintro en w' ⟨rfl, nq, rfl⟩
  rw [HG.out, HGW.out]
  go_wp2
  go_region
  all_goals go_wp2
  all_goals exact bodyPost_ret (v := .agg #[.int .i64 x, .int .i64 y]) (by simp [results, Try.results92, go_sem]) rfl ⟨rfl, by repeat' (first | exact Below.refl _ _ | exact HB0.out | refine below_drewN ?_ _ | refine Below.drew ?_ | refine Below.alloc ?_ (by first | omega | (simp; done) | (simp; omega) | (simp [World.setCell]; omega)) _ | refine Below.setCell ?_ (by first | omega | (simp; done) | (simp; omega)) _ | assumption)⟩
set_option maxRecDepth 100000 in
theorem rlow_pos (a b x y : Int) (hx : redN a b = x) (hy : redD a b = y) (w : World) (h1 : -4000000000000000000 ≤ a) (h2 : a ≤ 4000000000000000000) (h3 : 1 ≤ b) (h4 : b ≤ 4000000000000000000) :
    Calls Try.prog 92 #[.int .i64 a, .int .i64 b] w fun e w' => e = .returned (.agg #[.int .i64 x, .int .i64 y]) ∧ Below w.heap.size w w' := by
  have hp : 0 < Int.gcd a b := Int.gcd_pos_of_ne_zero_right a (by omega)
  have hle : (Int.gcd a b : Int) ≤ 4000000000000000000 := by
    have := Int.gcd_le_natAbs_right a (b := b) (by omega)
    omega
  have e1 : a.tdiv ((Int.gcd a b : Int)) = x := by
    rw [← hx]
    unfold redN
    rw [tdiv_gcd_left]
  have e2 : b.tdiv ((Int.gcd a b : Int)) = y := by
    rw [← hy]
    unfold redD
    rw [tdiv_gcd_right]
  obtain ⟨x1, x2, y1, y2⟩ := red_in (a := a) (b := b) (by omega) (by omega) (by omega) (by omega)
  rw [hx] at x1 x2
  rw [hy] at y1 y2
  have v1 := IntWalk.i64_in x ⟨by omega, by omega⟩
  have v2 := IntWalk.i64_in y ⟨by omega, by omega⟩
  have hgw : wrap64 (Int.gcd a b : Int) = (Int.gcd a b : Int) := IntWalk.wrap64_in _ ⟨by omega, by omega⟩
  obtain ⟨g, hg⟩ : ∃ g, (Int.gcd a b : Int) = g := ⟨_, rfl⟩
  rw [hg] at e1 e2 hgw hle
  have hg1 : 1 ≤ g := by omega
  have v3 := IntWalk.i64_in (-g) ⟨by omega, by omega⟩
  have g0 : ¬ -g = 0 := by omega
  have g0' : ¬ g = 0 := by omega
  have HG := Lib.hid hg
  have HGW := Lib.hid hgw
  clear hx hy hg hgw hp
  go_enter Try.func92, Try.ntmps92
  go_wp2_with fail
  refine (gcdref_any _ _ _ (by omega) (by omega) (by omega) (by omega)).mono ?_
  rintro en w' ⟨rfl, nq, rfl⟩
  rw [HG.out, HGW.out]
  go_wp2
  go_region
  all_goals go_wp2
  all_goals exact bodyPost_ret (v := .agg #[.int .i64 x, .int .i64 y]) (by simp [results, Try.results92, go_sem]) rfl ⟨rfl, by repeat' (first | exact Below.refl _ _ | exact HB0.out | refine below_drewN ?_ _ | refine Below.drew ?_ | refine Below.alloc ?_ (by first | omega | (simp; done) | (simp; omega) | (simp [World.setCell]; omega)) _ | refine Below.setCell ?_ (by first | omega | (simp; done) | (simp; omega)) _ | assumption)⟩
theorem plowest_is (a b x y : Int) (h : lowF a b = (x, y)) (h0 : b ≠ 0) (w : World) (h1 : -4000000000000000000 ≤ a) (h2 : a ≤ 4000000000000000000) (h3 : -4000000000000000000 ≤ b) (h4 : b ≤ 4000000000000000000) :
    Calls Try.prog 89 #[.int .i64 a, .int .i64 b] w fun e w' => e = .returned (.agg #[.int .i64 x, .int .i64 y]) ∧ Below w.heap.size w w' := by
  unfold lowF at h
  by_cases hb : b < 0
  · rw [if_pos hb] at h
    obtain ⟨hx, hy⟩ := Prod.mk.inj h
    exact plow_neg a b x y hx hy w h1 h2 (by omega) h3
  · rw [if_neg hb] at h
    obtain ⟨hx, hy⟩ := Prod.mk.inj h
    exact plow_pos a b x y hx hy w h1 h2 (by omega) h4
theorem rlowest9_is (a b x y : Int) (h : lowF a b = (x, y)) (h0 : b ≠ 0) (w : World) (h1 : -4000000000000000000 ≤ a) (h2 : a ≤ 4000000000000000000) (h3 : -4000000000000000000 ≤ b) (h4 : b ≤ 4000000000000000000) :
    Calls Try.prog 92 #[.int .i64 a, .int .i64 b] w fun e w' => e = .returned (.agg #[.int .i64 x, .int .i64 y]) ∧ Below w.heap.size w w' := by
  unfold lowF at h
  by_cases hb : b < 0
  · rw [if_pos hb] at h
    obtain ⟨hx, hy⟩ := Prod.mk.inj h
    exact rlow_neg a b x y hx hy w h1 h2 (by omega) h3
  · rw [if_neg hb] at h
    obtain ⟨hx, hy⟩ := Prod.mk.inj h
    exact rlow_pos a b x y hx hy w h1 h2 (by omega) h4
end Go.Proofs.Ytgamepmipoociaa

end
