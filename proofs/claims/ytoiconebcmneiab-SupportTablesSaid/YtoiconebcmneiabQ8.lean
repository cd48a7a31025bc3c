import Derived.Test.YtoiconebcmneiabQ6
import Derived.Test.YtoiconebcmneiabQ7
import Derived.RangeFuncNested
import Derived.RangeFuncBound
import Derived.RangeFuncCalls
import Derived.RangeFuncLeaves
import Derived.RangeFuncBox
import Derived.Shelf.Abstract
import Derived.Shelf.RegionOpen
import Derived.WalkKit
import Derived.OwnWalkIn
import Derived.TacticsInMore
import Derived.LoopNIn
import Derived.LoopIn
import Derived.Maps.OwnIn
import Derived.Maps.AppendAt
import Derived.Test.YtoiconebcmneiabQ5
import Derived.Test.YtoiconebcmneiabQ4

section
/- Contracts of the reference's top, of the points below a name, of all points. -/
namespace Go.Proofs.Ytoiconebcmneiab
open Go.RowKit

theorem top_name {l : List Rk} (h : openErr l = 0) {k : Nat} {r : Rk} (hr : l[k]? = some r) (hb : hasB (borneAll l) r.name = false) : topName l = r.name := by
  obtain ⟨j, hj, hT, htop, hone⟩ := tops_one h
  have hk : k < l.length := (List.getElem?_eq_some_iff.1 hr).1
  have hkT : isTop l k = true := by rw [isTop_mem hr, hb]; rfl
  have e := hone k hk hkT
  subst e
  unfold topName
  rw [htop, hr]
  rfl

set_option maxRecDepth 100000 in
set_option maxHeartbeats 1000000 in
theorem rtop_any (l : List Rk) (hf : ∀ r ∈ l, r.Fits) (A : Option Addr) (n c N : Nat) (w : World) (hx : Reads w N 5 A n (rkCells l)) (hN : N ≤ w.heap.size) (hn : n ≤ 100000) (h0 : openErr l = 0) :
    Calls Try.prog 39 #[.slice A n c] w fun e w' => e = .returned (.string (topName l)) ∧ Below w.heap.size w w' := by
  have hxl := Lib.hid hx.len5
  have HX := Lib.hid hx
  have H0 := Lib.hid h0
  clear hx h0
  go_enter Try.func39, Try.ntmps39
  go_wp2_with fail
  refine (borne_any l A n c N _ HX.out hN hn).mono ?_
  rintro e w1 ⟨hb, A', c', rfl, hcc, hrr⟩
  have HB1 := Lib.hid (show Below w.heap.size w w1 from step_below hb (by repeat' (first | exact Below.refl _ _ | exact HB0.out | refine below_drewN ?_ _ | refine Below.drew ?_ | refine Below.alloc ?_ (by first | omega | (simp; done) | (simp; omega) | (simp [World.setCell]; omega)) _ | refine Below.setCell ?_ (by first | omega | (simp; done) | (simp; omega)) _ | assumption)))
  have hz1 := hb.size
  try simp only [World.size_alloc, World.drewN, World.drew] at hz1
  clear hb
  have HRR := Lib.hid hrr
  clear hrr
  obtain ⟨m, hm⟩ : ∃ m, 2 * n = m := ⟨_, rfl⟩
  rw [hm] at HRR hcc
  rw [hm]
  have hm2 : m ≤ 200000 := by omega
  have HM := Lib.hid hm
  clear hm
  have HX1 := Lib.hid (HX.out.belowLe HB1.out hN)
  go_wp2
  go_loop [4] (fun i => ∃ k : Nat, k ≤ n ∧ i = .int .i64 k ∧ ∀ j, j < k → ∀ r, l[j]? = some r → hasB (borneAll l) r.name = true) (fun i => n - (intOf i).toNat)
  case atStart => exact ⟨0, by omega, rfl, fun j hj => by omega⟩
  case round =>
    obtain ⟨k, hk, rfl, hno⟩ := hrel
    have HNO := Lib.hid hno
    clear hno
    by_cases hlt : k < n
    · obtain ⟨xb, xo, r, rfl, hxb, hr, c0, -, -, -, -⟩ := HX1.out.rk hlt
      have HR := Lib.hid hr
      clear hr
      go_wp2_with fail
      obtain ⟨t1, ht1⟩ : ∃ t, hasB (borneAll l) r.name = t := ⟨_, rfl⟩
      refine (hastext_is (borneAll l) _ m c' _ r.name t1 ht1 _ HRR.out (by omega)).mono ?_
      rintro e w' ⟨rfl, rfl⟩
      cases t1
      · have HT := Lib.hid (top_name H0.out HR.out ht1)
        clear ht1
        go_wp2
        go_ret
        exact ⟨by rw [HT.out]; rfl, HB1.out⟩
      · have HT := Lib.hid ht1
        clear ht1
        go_wp2
        go_round
        case rel =>
          refine ⟨k + 1, by omega, by go_num, fun j hj r' hr' => ?_⟩
          rcases Nat.lt_succ_iff_lt_or_eq.1 hj with hj | hj
          · exact HNO.out j hj r' hr'
          · subst hj
            obtain rfl := Option.some.inj (hr'.symm.trans HR.out)
            exact HT.out
        case measure => simp [intOf]; omega
    · exfalso
      obtain ⟨j, hj, hT, -, -⟩ := tops_one H0.out
      have hr := List.getElem?_eq_getElem hj
      rw [isTop_mem hr, HNO.out j (by rw [hxl.out] at hj; omega) _ hr] at hT
      cases hT

/-- What operation c yields is owned, until operation s (an append, a store) comes. -/
def OwnM (base : Nat) (e : TypeId) (size n : Nat) (xs : List Value) (c s : Nat) (g : Nat → Option Pick) (f : Nat → Bool) (w' : World) : Prop := ∀ x, g c = some x → f s = false → w'.ownsRow base e size (.slice x.1 n x.2) n xs
section
variable {base size n c s i k : Nat} {e : TypeId} {xs : List Value} {g : Nat → Option Pick} {f : Nat → Bool} {w' w'' : World} {x : Pick}
theorem OwnM.start : OwnM base e size n xs c s (fun _ => none) f w' := fun x h => by cases h
theorem OwnM.step (h : OwnM base e size n xs c s g f w') (hb : Below w'.heap.size w' w'') (hk : k ≠ s) : OwnM base e size n xs c s g (Fx.add f k) w'' := fun x hx hf => by
  rw [add_ne' hk] at hf
  exact own_below (h x hx hf) hb (Nat.le_refl _)
theorem OwnM.other (h : OwnM base e size n xs c s g f w') (hc : c ≠ i) : OwnM base e size n xs c s (Fx.upd g i x) f w' := fun y hy => h y (by rwa [upd_ne hc] at hy)
theorem OwnM.new (h : w'.ownsRow base e size (.slice x.1 n x.2) n xs) : OwnM base e size n xs c s (Fx.upd g c x) f w' := fun y hy _ => by rw [Fx.upd_same] at hy; cases hy; exact h
theorem OwnM.stored : OwnM base e size n xs c s g (Fx.add f s) w'' := fun x _ hf => by rw [add_same] at hf; cases hf
end

theorem one_strs (ps : List ByteArray) : ∀ u ∈ strs ps, u.oneCell' = true := by
  intro u hu
  obtain ⟨x, -, rfl⟩ := List.mem_map.1 hu
  rfl

def BelowPost (ps : List ByteArray) (w : World) (e : Ending) (w' : World) : Prop :=
  Below w.heap.size w w' ∧ ∃ A' c', e = .returned (.slice A' ps.length c') ∧ w'.ownsRow w.heap.size 9 1 (.slice A' ps.length c') ps.length (strs ps)

set_option maxHeartbeats 1000000 in
theorem rbelow_leaf (l : List Rk) (A : Option Addr) (n c N : Nat) (hn : n ≤ 100000) (name : ByteArray) (w : World) (hi : idxOf l name = none) (hx : Reads w N 5 A n (rkCells l)) :
    Calls Try.prog 79 #[.slice A n c, .string name] w (BelowPost [name] w) := by
  have HF : Hid (findI l name = -1) := by show _ = _; unfold findI; rw [hi]
  have HX := Lib.hid hx
  clear hx hi
  go_enter Try.func79, Try.ntmps79
  go_wp2_with (go_at_call 38; refine (find_is l _ n c N name (-1) HF.out _ HX.out (by omega)).mono ?_; rintro e w' ⟨rfl, rfl⟩)
  go_ret
  refine ⟨(Below.refl _ _).alloc (Nat.le_refl _) _, some ⟨w.heap.size, 0, none⟩, 1, rfl, rfl, .inr ⟨w.heap.size, 1, #[.string name], rfl, Nat.le_refl _, Blk.new _ _ _, by simp, by decide, by simp, by simp [strs]⟩⟩

set_option maxRecDepth 100000 in
set_option maxHeartbeats 2000000 in
theorem rbelow_any (l : List Rk) (hfits : ∀ r ∈ l, r.Fits) (A : Option Addr) (n c N : Nat) (hn : n ≤ 100000) :
    ∀ (f : Nat) (name : ByteArray) (ps : List ByteArray) (w : World), pts l f name = some ps → Reads w N 5 A n (rkCells l) → N ≤ w.heap.size → ps.length ≤ 1000000 →
      Calls Try.prog 79 #[.slice A n c, .string name] w (BelowPost ps w) := by
  intro f
  induction f with
  | zero =>
    intro name ps w hp hx hN hps
    unfold pts at hp
    cases hi : idxOf l name with
    | some i => rw [hi] at hp; cases hp
    | none =>
      rw [hi] at hp
      obtain rfl := Option.some.inj hp
      exact rbelow_leaf l A n c N hn name w hi hx
  | succ f ih =>
    intro name ps w hp hx hN hps
    cases hi : idxOf l name with
    | none =>
      unfold pts at hp
      rw [hi] at hp
      obtain rfl := Option.some.inj hp
      exact rbelow_leaf l A n c N hn name w hi hx
    | some i =>
      unfold pts at hp
      rw [hi] at hp
      simp only at hp
      cases hr : l[i]? with
      | none => rw [hr] at hp; cases hp
      | some r =>
        rw [hr] at hp
        simp only at hp
        cases ha : pts l f r.left with
        | none => rw [ha] at hp; cases hp
        | some pa =>
          cases hb : pts l f r.right with
          | none => rw [ha, hb] at hp; cases hp
          | some pb =>
            rw [ha, hb] at hp
            obtain rfl := Option.some.inj hp
            rw [List.length_append] at hps
            have hin : i < n := by
              have := (List.getElem?_eq_some_iff.1 hr).1
              rw [hx.len5] at this; exact this
            obtain ⟨zb, zo, r', rfl, hzb, hr', -, c1, c2, -, -⟩ := hx.rk hin
            obtain rfl := Option.some.inj (hr'.symm.trans hr)
            have HF : Hid (findI l name = (i : Int)) := by show _ = _; unfold findI; rw [hi]
            have HX := Lib.hid hx
            have HA := Lib.hid ha
            have HB := Lib.hid hb
            have IH := Lib.hid ih
            obtain ⟨i0, hi0, hz0, hz1, hz2⟩ := info_parts info_str2
            have HI0 := Lib.hid hi0
            have HZ0 := Lib.hid hz0
            have HZ1 := Lib.hid hz1
            have HZ2 := Lib.hid hz2
            clear hx hi hp hr hr' ha hb ih hi0 hz0 hz1 hz2
            go_enter Try.func79, Try.ntmps79
            go_wp2_with (go_at_call 38; refine (find_is l _ n c N name (i : Int) HF.out _ HX.out (by omega)).mono ?_; rintro e w' ⟨rfl, rfl⟩)
            refine Fx.regionM (fun W g f w' => Below W.heap.size W w' ∧ OwnM W.heap.size 9 1 pa.length (strs pa) 6 14 g f w' ∧ OwnM W.heap.size 9 1 pb.length (strs pb) 13 14 g f w' ∧ OwnM W.heap.size 9 1 (pa.length + pb.length) (strs (pa ++ pb)) 14 99 g f w') (fun i (x : Pick) => if i = 6 then .slice x.1 pa.length x.2 else if i = 13 then .slice x.1 pb.length x.2 else .slice x.1 (pa.length + pb.length) x.2) (by kernel_rfl) ?_ ?_
            · intro f hf0
              exact ⟨below_drewN (Below.refl _ _) 1, OwnM.start, OwnM.start, OwnM.start⟩
            first
            | (refine Fx.WM.skip 0 (by rfl) (by kernel_rfl) (by kernel_rfl) (by kernel_rfl) (by rfl) (fun g f w h => h) ?_; simp only [Act.put, List.setIfInBounds_toArray, List.set_cons_zero, List.set_cons_succ])
            | (refine Fx.WM.val_ 0 ?_ (by rfl) (by kernel_rfl) (by kernel_rfl) (by kernel_rfl) (by rfl) ?_ (fun g f w h => h) ?_
               rotate_left
               · intro g f w' hx hD hk
                 obtain ⟨hb, h1, h2, h3⟩ := id hD
                 have y0 := (hb.cell (p := ⟨zb, zo + i * 5 + 1, none⟩) (by show zb < _; omega)).trans c1
                 have y1 := (hb.cell (p := ⟨zb, zo + i * 5 + 2, none⟩) (by show zb < _; omega)).trans c2
                 clear hx hk hD hb h1 h2 h3
                 go_simp
                 try rfl
               simp only [Act.put, List.setIfInBounds_toArray, List.set_cons_zero, List.set_cons_succ])
            first
            | (refine Fx.WM.skip 1 (by rfl) (by kernel_rfl) (by kernel_rfl) (by kernel_rfl) (by rfl) (fun g f w h => h) ?_; simp only [Act.put, List.setIfInBounds_toArray, List.set_cons_zero, List.set_cons_succ])
            | (refine Fx.WM.val_ 1 ?_ (by rfl) (by kernel_rfl) (by kernel_rfl) (by kernel_rfl) (by rfl) ?_ (fun g f w h => h) ?_
               rotate_left
               · intro g f w' hx hD hk
                 obtain ⟨hb, h1, h2, h3⟩ := id hD
                 have y0 := (hb.cell (p := ⟨zb, zo + i * 5 + 1, none⟩) (by show zb < _; omega)).trans c1
                 have y1 := (hb.cell (p := ⟨zb, zo + i * 5 + 2, none⟩) (by show zb < _; omega)).trans c2
                 clear hx hk hD hb h1 h2 h3
                 go_simp
                 try rfl
               simp only [Act.put, List.setIfInBounds_toArray, List.set_cons_zero, List.set_cons_succ])
            first
            | (refine Fx.WM.skip 2 (by rfl) (by kernel_rfl) (by kernel_rfl) (by kernel_rfl) (by rfl) (fun g f w h => h) ?_; simp only [Act.put, List.setIfInBounds_toArray, List.set_cons_zero, List.set_cons_succ])
            | (refine Fx.WM.val_ 2 ?_ (by rfl) (by kernel_rfl) (by kernel_rfl) (by kernel_rfl) (by rfl) ?_ (fun g f w h => h) ?_
               rotate_left
               · intro g f w' hx hD hk
                 obtain ⟨hb, h1, h2, h3⟩ := id hD
                 have y0 := (hb.cell (p := ⟨zb, zo + i * 5 + 1, none⟩) (by show zb < _; omega)).trans c1
                 have y1 := (hb.cell (p := ⟨zb, zo + i * 5 + 2, none⟩) (by show zb < _; omega)).trans c2
                 clear hx hk hD hb h1 h2 h3
                 go_simp
                 try rfl
               simp only [Act.put, List.setIfInBounds_toArray, List.set_cons_zero, List.set_cons_succ])
            first
            | (refine Fx.WM.skip 3 (by rfl) (by kernel_rfl) (by kernel_rfl) (by kernel_rfl) (by rfl) (fun g f w h => h) ?_; simp only [Act.put, List.setIfInBounds_toArray, List.set_cons_zero, List.set_cons_succ])
            | (refine Fx.WM.val_ 3 ?_ (by rfl) (by kernel_rfl) (by kernel_rfl) (by kernel_rfl) (by rfl) ?_ (fun g f w h => h) ?_
               rotate_left
               · intro g f w' hx hD hk
                 obtain ⟨hb, h1, h2, h3⟩ := id hD
                 have y0 := (hb.cell (p := ⟨zb, zo + i * 5 + 1, none⟩) (by show zb < _; omega)).trans c1
                 have y1 := (hb.cell (p := ⟨zb, zo + i * 5 + 2, none⟩) (by show zb < _; omega)).trans c2
                 clear hx hk hD hb h1 h2 h3
                 go_simp
                 try rfl
               simp only [Act.put, List.setIfInBounds_toArray, List.set_cons_zero, List.set_cons_succ])
            first
            | (refine Fx.WM.skip 4 (by rfl) (by kernel_rfl) (by kernel_rfl) (by kernel_rfl) (by rfl) (fun g f w h => h) ?_; simp only [Act.put, List.setIfInBounds_toArray, List.set_cons_zero, List.set_cons_succ])
            | (refine Fx.WM.val_ 4 ?_ (by rfl) (by kernel_rfl) (by kernel_rfl) (by kernel_rfl) (by rfl) ?_ (fun g f w h => h) ?_
               rotate_left
               · intro g f w' hx hD hk
                 obtain ⟨hb, h1, h2, h3⟩ := id hD
                 have y0 := (hb.cell (p := ⟨zb, zo + i * 5 + 1, none⟩) (by show zb < _; omega)).trans c1
                 have y1 := (hb.cell (p := ⟨zb, zo + i * 5 + 2, none⟩) (by show zb < _; omega)).trans c2
                 clear hx hk hD hb h1 h2 h3
                 go_simp
                 try rfl
               simp only [Act.put, List.setIfInBounds_toArray, List.set_cons_zero, List.set_cons_succ])
            first
            | (refine Fx.WM.skip 5 (by rfl) (by kernel_rfl) (by kernel_rfl) (by kernel_rfl) (by rfl) (fun g f w h => h) ?_; simp only [Act.put, List.setIfInBounds_toArray, List.set_cons_zero, List.set_cons_succ])
            | (refine Fx.WM.val_ 5 ?_ (by rfl) (by kernel_rfl) (by kernel_rfl) (by kernel_rfl) (by rfl) ?_ (fun g f w h => h) ?_
               rotate_left
               · intro g f w' hx hD hk
                 obtain ⟨hb, h1, h2, h3⟩ := id hD
                 have y0 := (hb.cell (p := ⟨zb, zo + i * 5 + 1, none⟩) (by show zb < _; omega)).trans c1
                 have y1 := (hb.cell (p := ⟨zb, zo + i * 5 + 2, none⟩) (by show zb < _; omega)).trans c2
                 clear hx hk hD hb h1 h2 h3
                 go_simp
                 try rfl
               simp only [Act.put, List.setIfInBounds_toArray, List.set_cons_zero, List.set_cons_succ])
            first
            | (refine Fx.WM.skip 7 (by rfl) (by kernel_rfl) (by kernel_rfl) (by kernel_rfl) (by rfl) (fun g f w h => h) ?_; simp only [Act.put, List.setIfInBounds_toArray, List.set_cons_zero, List.set_cons_succ])
            | (refine Fx.WM.val_ 7 ?_ (by rfl) (by kernel_rfl) (by kernel_rfl) (by kernel_rfl) (by rfl) ?_ (fun g f w h => h) ?_
               rotate_left
               · intro g f w' hx hD hk
                 obtain ⟨hb, h1, h2, h3⟩ := id hD
                 have y0 := (hb.cell (p := ⟨zb, zo + i * 5 + 1, none⟩) (by show zb < _; omega)).trans c1
                 have y1 := (hb.cell (p := ⟨zb, zo + i * 5 + 2, none⟩) (by show zb < _; omega)).trans c2
                 clear hx hk hD hb h1 h2 h3
                 go_simp
                 try rfl
               simp only [Act.put, List.setIfInBounds_toArray, List.set_cons_zero, List.set_cons_succ])
            first
            | (refine Fx.WM.skip 8 (by rfl) (by kernel_rfl) (by kernel_rfl) (by kernel_rfl) (by rfl) (fun g f w h => h) ?_; simp only [Act.put, List.setIfInBounds_toArray, List.set_cons_zero, List.set_cons_succ])
            | (refine Fx.WM.val_ 8 ?_ (by rfl) (by kernel_rfl) (by kernel_rfl) (by kernel_rfl) (by rfl) ?_ (fun g f w h => h) ?_
               rotate_left
               · intro g f w' hx hD hk
                 obtain ⟨hb, h1, h2, h3⟩ := id hD
                 have y0 := (hb.cell (p := ⟨zb, zo + i * 5 + 1, none⟩) (by show zb < _; omega)).trans c1
                 have y1 := (hb.cell (p := ⟨zb, zo + i * 5 + 2, none⟩) (by show zb < _; omega)).trans c2
                 clear hx hk hD hb h1 h2 h3
                 go_simp
                 try rfl
               simp only [Act.put, List.setIfInBounds_toArray, List.set_cons_zero, List.set_cons_succ])
            first
            | (refine Fx.WM.skip 9 (by rfl) (by kernel_rfl) (by kernel_rfl) (by kernel_rfl) (by rfl) (fun g f w h => h) ?_; simp only [Act.put, List.setIfInBounds_toArray, List.set_cons_zero, List.set_cons_succ])
            | (refine Fx.WM.val_ 9 ?_ (by rfl) (by kernel_rfl) (by kernel_rfl) (by kernel_rfl) (by rfl) ?_ (fun g f w h => h) ?_
               rotate_left
               · intro g f w' hx hD hk
                 obtain ⟨hb, h1, h2, h3⟩ := id hD
                 have y0 := (hb.cell (p := ⟨zb, zo + i * 5 + 1, none⟩) (by show zb < _; omega)).trans c1
                 have y1 := (hb.cell (p := ⟨zb, zo + i * 5 + 2, none⟩) (by show zb < _; omega)).trans c2
                 clear hx hk hD hb h1 h2 h3
                 go_simp
                 try rfl
               simp only [Act.put, List.setIfInBounds_toArray, List.set_cons_zero, List.set_cons_succ])
            first
            | (refine Fx.WM.skip 10 (by rfl) (by kernel_rfl) (by kernel_rfl) (by kernel_rfl) (by rfl) (fun g f w h => h) ?_; simp only [Act.put, List.setIfInBounds_toArray, List.set_cons_zero, List.set_cons_succ])
            | (refine Fx.WM.val_ 10 ?_ (by rfl) (by kernel_rfl) (by kernel_rfl) (by kernel_rfl) (by rfl) ?_ (fun g f w h => h) ?_
               rotate_left
               · intro g f w' hx hD hk
                 obtain ⟨hb, h1, h2, h3⟩ := id hD
                 have y0 := (hb.cell (p := ⟨zb, zo + i * 5 + 1, none⟩) (by show zb < _; omega)).trans c1
                 have y1 := (hb.cell (p := ⟨zb, zo + i * 5 + 2, none⟩) (by show zb < _; omega)).trans c2
                 clear hx hk hD hb h1 h2 h3
                 go_simp
                 try rfl
               simp only [Act.put, List.setIfInBounds_toArray, List.set_cons_zero, List.set_cons_succ])
            first
            | (refine Fx.WM.skip 11 (by rfl) (by kernel_rfl) (by kernel_rfl) (by kernel_rfl) (by rfl) (fun g f w h => h) ?_; simp only [Act.put, List.setIfInBounds_toArray, List.set_cons_zero, List.set_cons_succ])
            | (refine Fx.WM.val_ 11 ?_ (by rfl) (by kernel_rfl) (by kernel_rfl) (by kernel_rfl) (by rfl) ?_ (fun g f w h => h) ?_
               rotate_left
               · intro g f w' hx hD hk
                 obtain ⟨hb, h1, h2, h3⟩ := id hD
                 have y0 := (hb.cell (p := ⟨zb, zo + i * 5 + 1, none⟩) (by show zb < _; omega)).trans c1
                 have y1 := (hb.cell (p := ⟨zb, zo + i * 5 + 2, none⟩) (by show zb < _; omega)).trans c2
                 clear hx hk hD hb h1 h2 h3
                 go_simp
                 try rfl
               simp only [Act.put, List.setIfInBounds_toArray, List.set_cons_zero, List.set_cons_succ])
            first
            | (refine Fx.WM.skip 12 (by rfl) (by kernel_rfl) (by kernel_rfl) (by kernel_rfl) (by rfl) (fun g f w h => h) ?_; simp only [Act.put, List.setIfInBounds_toArray, List.set_cons_zero, List.set_cons_succ])
            | (refine Fx.WM.val_ 12 ?_ (by rfl) (by kernel_rfl) (by kernel_rfl) (by kernel_rfl) (by rfl) ?_ (fun g f w h => h) ?_
               rotate_left
               · intro g f w' hx hD hk
                 obtain ⟨hb, h1, h2, h3⟩ := id hD
                 have y0 := (hb.cell (p := ⟨zb, zo + i * 5 + 1, none⟩) (by show zb < _; omega)).trans c1
                 have y1 := (hb.cell (p := ⟨zb, zo + i * 5 + 2, none⟩) (by show zb < _; omega)).trans c2
                 clear hx hk hD hb h1 h2 h3
                 go_simp
                 try rfl
               simp only [Act.put, List.setIfInBounds_toArray, List.set_cons_zero, List.set_cons_succ])
            refine Fx.WM.choose 6 (by rfl) (by kernel_rfl) (by rfl) ?_ ?_
            · skip
              refine Fx.Chooses.call ?_ ?_ (by rfl) ?_ ?_
              rotate_left 2
              · intro w'
                go_simp
                refine ⟨?_, ?_⟩ <;> rfl
              · intro f w' hD hk
                exact (IH.out r'.left pa w' HA.out (HX.out.belowLe hD.1 hN) (by have := hD.1.size; omega) (by omega)).mono fun e w'' ⟨hb, A', c', he, ho⟩ => ⟨(A', c'), he, step_below hb hD.1, OwnM.new (own_base hD.1.size ho), (hD.2.2.1.step hb (by decide)).other (by decide), (hD.2.2.2.step hb (by decide)).other (by decide)⟩
            intro x
            simp only [Act.put, List.setIfInBounds_toArray, List.set_cons_zero, List.set_cons_succ]
            refine Fx.WM.choose 13 (by rfl) (by kernel_rfl) (by rfl) ?_ ?_
            · skip
              refine Fx.Chooses.call ?_ ?_ (by rfl) ?_ ?_
              rotate_left 2
              · intro w'
                go_simp
                refine ⟨?_, ?_⟩ <;> rfl
              · intro f w' hD hk
                exact (IH.out r'.right pb w' HB.out (HX.out.belowLe hD.1 hN) (by have := hD.1.size; omega) (by omega)).mono fun e w'' ⟨hb, A', c', he, ho⟩ => ⟨(A', c'), he, step_below hb hD.1, (hD.2.1.step hb (by decide)).other (by decide), OwnM.new (own_base hD.1.size ho), (hD.2.2.2.step hb (by decide)).other (by decide)⟩
            intro y
            simp only [Act.put, List.setIfInBounds_toArray, List.set_cons_zero, List.set_cons_succ]
            refine Fx.WM.choose 14 (by rfl) (by kernel_rfl) (by rfl) ?_ ?_
            · refine Fx.Chooses.make (by rfl) ?_
              intro f w' hD hk
              obtain ⟨hb, h1, h2, h3⟩ := hD
              have o1 := h1 x rfl (hk.1)
              have o2 := h2 y rfl (hk.1)
              obtain ⟨A2, c2', e2, hr2⟩ := own_reads o2
              injection e2 with e2a e2b e2c
              subst e2a e2c
              obtain ⟨v', W2, hrun, o3, hg2, hrow⟩ := run_append_any (P := Try.prog) w' w.heap.size 77 77 9 i0 _ 1 16 Try.underlying77 HI0.out HZ0.out HZ1.out HZ2.out rfl (by omega) (.slice x.1 pa.length x.2) pa.length _ o1 w'.heap.size y.1 pb.length y.2 (strs pb) hr2 (one_strs pb) (by unfold maxLen; omega) (by omega) hb.size
              obtain ⟨A3, c3, rfl, -⟩ := own_reads o3
              refine ⟨(A3, c3), W2, ?_, hb.grown hg2 (by have := hb.size; omega) (fun g hg => (own_lt o1 hg).1), OwnM.stored, OwnM.stored, OwnM.new ?_⟩
              · exact exec_append (.tmp 19) (.tmp 26) _ rfl hrun
              · unfold strs at o3 ⊢
                rw [List.map_append]
                exact o3
            intro z
            simp only [Act.put, List.setIfInBounds_toArray, List.set_cons_zero, List.set_cons_succ]
            first
            | (refine Fx.WM.skip 15 (by rfl) (by kernel_rfl) (by kernel_rfl) (by kernel_rfl) (by rfl) (fun g f w h => h) ?_; simp only [Act.put, List.setIfInBounds_toArray, List.set_cons_zero, List.set_cons_succ])
            | (refine Fx.WM.val_ 15 ?_ (by rfl) (by kernel_rfl) (by kernel_rfl) (by kernel_rfl) (by rfl) ?_ (fun g f w h => h) ?_
               rotate_left
               · intro g f w' hx hD hk
                 obtain ⟨hb, h1, h2, h3⟩ := id hD
                 have y0 := (hb.cell (p := ⟨zb, zo + i * 5 + 1, none⟩) (by show zb < _; omega)).trans c1
                 have y1 := (hb.cell (p := ⟨zb, zo + i * 5 + 2, none⟩) (by show zb < _; omega)).trans c2
                 clear hx hk hD hb h1 h2 h3
                 go_simp
                 try rfl
               simp only [Act.put, List.setIfInBounds_toArray, List.set_cons_zero, List.set_cons_succ])
            refine Fx.WM.nil (by kernel_rfl) ?_
            intro wz hD
            have ho := hD.2.2.2 z rfl (by rfl)
            have hbz := hD.1
            clear hD
            go_wp2
            go_ret
            exact ⟨hbz, z.1, z.2, by rw [List.length_append]; rfl, by rw [List.length_append]; exact ho⟩

end Go.Proofs.Ytoiconebcmneiab

end

section
/- The contracts of the iterator over the points below a thing. -/
namespace Go.Proofs.Ytoiconebcmneiab
open Go.RowKit Go.Shelf Go.Maps

attribute [local go_sem] Oper.semAt_some

section
variable {F : Fence} {nF : Nat} {P : Program} {k t e : TypeId} {b n : Nat} {M : ByteArray → Option Value} {ops : Array Oper} {rest : List Oper} {o : Oper} {a : Act} {Q : Exit → Act → World → Prop}
theorem wpListIn_look (w : World) (hg : o.guard = none) (m x : Operand) (t : TypeId) (hop : o.op = Op.lookup t m x true) (hk : P.underlying k = some .string) (ht : P.underlying t = some (.map k e)) {z : Value} (hz : (zeroValue e).run P w = .ok z w)
    (hM : MapIs P k w b n M) (hm : a.eval m = .map (some b)) (s : ByteArray) (hx : a.eval x = .string s) (hs : s.size ≤ maxLen)
    (hK : wpListIn F nF P ops Q rest (a.put o.dst (.tuple #[(M s).getD z, .bool (M s).isSome])) w) : wpListIn F nF P ops Q (o :: rest) a w := by
  refine wpListIn_plain hg fun K' hK' => ?_
  have hrun := hM.look hk ht hz s hs
  unfold Oper.wpIn
  refine ⟨by simp [Oper.about, hop], ?_⟩
  rw [Oper.semAt_plain F _ _ (by rw [hop]; intro c hc'; cases hc')]
  simp [execOp, hop, hm, hx, hrun, Result.andThen]
  exact hK' _ _ hK

theorem wpListIn_get (w : World) (hg : o.guard = none) (m x : Operand) (t : TypeId) (hop : o.op = Op.lookup t m x false) (hk : P.underlying k = some .string) (ht : P.underlying t = some (.map k e)) {z : Value} (hz : (zeroValue e).run P w = .ok z w)
    (hM : MapIs P k w b n M) (hm : a.eval m = .map (some b)) (s : ByteArray) (hx : a.eval x = .string s) (hs : s.size ≤ maxLen)
    (hK : wpListIn F nF P ops Q rest (a.put o.dst ((M s).getD z)) w) : wpListIn F nF P ops Q (o :: rest) a w := by
  refine wpListIn_plain hg fun K' hK' => ?_
  have hrun := hM.get hk ht hz s hs
  unfold Oper.wpIn
  refine ⟨by simp [Oper.about, hop], ?_⟩
  rw [Oper.semAt_plain F _ _ (by rw [hop]; intro c hc'; cases hc')]
  simp [execOp, hop, hm, hx, hrun, Result.andThen]
  exact hK' _ _ hK
end

theorem RoundIn.anyD {F : Fence} (hd : F.depth = none) {m m' : Nat} {P : Program} {l : Nat} {f : FuncId} {tmps : Array Value} {assign body : Code} {w : World} {R : Ending → World → Prop}
    (h : RoundIn F m P l f tmps assign body w R) : RoundIn F m' P l f tmps assign body w R := ⟨h.1, fun c cs _ => h.2 c cs (fun d h => by rw [hd] at h; cases h)⟩
theorem YieldAt.anyD {F : Fence} (hd : F.depth = none) {m : Nat} (m' : Nat) {P : Program} {l : Nat} {args : Array Value} {W : World} {R : Ending → World → Prop} (h : YieldAt F m P l args W R) : YieldAt F m' P l args W R := by
  obtain ⟨fn, tmps, assign, body, hy, hR⟩ := h
  exact ⟨fn, tmps, assign, body, hy, RoundIn.anyD hd hR⟩

/-- A text that is not too long. -/
abbrev Txt := { s : ByteArray // s.size ≤ maxLen }
def txts (xs : List Txt) : List ByteArray := xs.map (·.1)

/-- A tree lies in blocks below n₀. -/
structure TreeAt (l : List Rk) (A : Option Addr) (n c tb mb : Nat) (top : Int) (n₀ : Nat) (w : World) : Prop where
  reads : Reads w n₀ 5 A n (rkCells l)
  tree : Blk w tb 131 #[.slice A n c, .map (some mb), .int .i64 top]
  tlt : tb < n₀
  map : MapIs Try.prog 9 w mb n (idxM l)
  mlt : mb < n₀

theorem TreeAt.below {l : List Rk} {A : Option Addr} {n c tb mb : Nat} {top : Int} {n₀ : Nat} {w w' : World} (h : TreeAt l A n c tb mb top n₀ w) (hb : Below n₀ w w') : TreeAt l A n c tb mb top n₀ w' :=
  ⟨h.reads.below hb, h.tree.below hb h.tlt, h.tlt, h.map.below hb h.mlt, h.mlt⟩
theorem TreeAt.more {l : List Rk} {A : Option Addr} {n c tb mb : Nat} {top : Int} {n₀ n₁ : Nat} {w : World} (h : TreeAt l A n c tb mb top n₀ w) (hn : n₀ ≤ n₁) : TreeAt l A n c tb mb top n₁ w :=
  ⟨h.reads.more hn, h.tree, by have := h.tlt; omega, h.map, by have := h.mlt; omega⟩

theorem pts_leaf {l : List Rk} {f : Nat} {s : ByteArray} (h : idxOf l s = none) : pts l f s = some [s] := by
  cases f <;> simp [pts, h]

theorem txts_app {xs : List Txt} {a b : List ByteArray} (h : txts xs = a ++ b) : ∃ x1 x2, xs = x1 ++ x2 ∧ txts x1 = a ∧ txts x2 = b := by
  obtain ⟨x1, x2, e, h1, h2⟩ := List.map_eq_append_iff.1 h
  exact ⟨x1, x2, e, h1, h2⟩

def encT (x : Txt) : Value := .string x.1

set_option maxRecDepth 100000 in
set_option maxHeartbeats 4000000 in
theorem walk_in (l : List Rk) (hfits : ∀ r ∈ l, r.Fits) (A : Option Addr) (n c tb mb : Nat) (top : Int) (n₀ : Nat) (hn : n ≤ 1000000) (lp N : Nat) (J Jx : List Txt → World → Prop)
    (hY : ∀ m pre (x : Txt) W, J pre W → pre.length < N → YieldAt Fence.wide m Try.prog lp #[.string x.1] W fun e W' =>
      (e = .returned (.bool true) ∧ J (pre ++ [x]) W' ∧ Below n₀ W W') ∨ (e = .returned (.bool false) ∧ Jx (pre ++ [x]) W')) :
    ∀ (f : Nat) (name : ByteArray) (xs : List Txt) (m : Nat) (pre : List Txt) (W : World), name.size ≤ maxLen → pts l f name = some (txts xs) → TreeAt l A n c tb mb top n₀ W → J pre W → pre.length + xs.length ≤ N →
      CallsIn Fence.wide m Try.prog 105 #[.pointer (some ⟨tb, 0, none⟩), .string name, .func (.yield lp) #[] #[]] W fun e W' =>
        (e = .returned (.bool true) ∧ J (pre ++ xs) W' ∧ Below n₀ W W') ∨ (e = .returned (.bool false) ∧ ∃ q, q <+: xs ∧ Jx (pre ++ q) W') := by
  have hdd : ∀ k : Nat, (Fence.wide.depth.isSome = true → 1 ≤ k) := fun k h => by cases h
  have hfn : Fence.wide.fn 105 := trivial
  have leaf : ∀ (f : Nat) (name : ByteArray) (xs : List Txt) (m : Nat) (pre : List Txt) (W : World), name.size ≤ maxLen → idxOf l name = none → pts l f name = some (txts xs) → TreeAt l A n c tb mb top n₀ W → J pre W → pre.length + xs.length ≤ N →
      CallsIn Fence.wide m Try.prog 105 #[.pointer (some ⟨tb, 0, none⟩), .string name, .func (.yield lp) #[] #[]] W fun e W' =>
        (e = .returned (.bool true) ∧ J (pre ++ xs) W' ∧ Below n₀ W W') ∨ (e = .returned (.bool false) ∧ ∃ q, q <+: xs ∧ Jx (pre ++ q) W') := by
    intro f name xs m pre W hnm hi hp ht hJ hN
    rw [pts_leaf hi] at hp
    obtain ⟨x, rfl, hx⟩ : ∃ x : Txt, xs = [x] ∧ x.1 = name := by
      have h1 : txts xs = [name] := (Option.some.inj hp).symm
      obtain ⟨x, t, e, h2, h3⟩ := List.map_eq_cons_iff.1 h1
      refine ⟨x, ?_, h2⟩
      rw [e, List.map_eq_nil_iff.1 h3]
    obtain ⟨xn, xl⟩ := x
    obtain rfl : xn = name := hx
    have hu : idxM l xn = none := by unfold idxM; rw [hi]; rfl
    have hu2 : ((idxM l xn).getD (.int .i64 0)) = .int .i64 0 := by rw [hu]; rfl
    have hu3 : (idxM l xn).isSome = false := by rw [hu]; rfl
    obtain ⟨fn, tmps, assign, body, hy, hR⟩ := hY (m - 1) pre ⟨xn, xl⟩ W hJ (by simp at hN; omega)
    have t1 : W.cell? ⟨tb, 1, none⟩ = some (.map (some mb)) := ht.tree.cell 1
    have hmap := ht.map
    clear hp hN hu hY
    refine callsIn_of_wp Try.func105 rfl trivial ?_ rfl
    simp only [Try.ntmps105, List.size_toArray, List.length_cons, List.length_nil, Nat.reduceAdd, Nat.reduceSub, Array.replicate_succ, Array.replicate_zero, List.push_toArray, List.append_toArray, List.nil_append, List.cons_append]
    gi_wp2_with (first
              | (gi_at_lookup; refine wpListIn_look _ rfl _ _ _ rfl Try.underlying9 Try.underlying129 (zero_int _) hmap rfl _ rfl hnm ?_; simp only [hu2, hu3])
              | ((try refine ⟨hdd _, ?_⟩); refine hR.mono ?_; clear hR; rintro e W2 (⟨rfl, hJ2, hb2⟩ | ⟨rfl, hx2⟩)))
    · go_ret
      exact .inl ⟨rfl, hJ2, hb2⟩
    · go_ret
      exact .inr ⟨rfl, [⟨xn, xl⟩], List.prefix_refl _, hx2⟩
  intro f
  induction f with
  | zero =>
    intro name xs m pre W hnm hp
    have hi : idxOf l name = none := by
      unfold pts at hp
      cases hx : idxOf l name with
      | none => rfl
      | some i => rw [hx] at hp; cases hp
    exact leaf 0 name xs m pre W hnm hi hp
  | succ f ih =>
    intro name xs m pre W hnm hp ht hJ hN
    cases hi : idxOf l name with
    | none => exact leaf (f + 1) name xs m pre W hnm hi hp ht hJ hN
    | some i =>
      clear leaf
      unfold pts at hp
      rw [hi] at hp
      simp only at hp
      cases hr : l[i]? with
      | none => rw [hr] at hp; cases hp
      | some r =>
        rw [hr] at hp
        simp only at hp
        cases ha : pts l f r.left with
        | none => rw [ha] at hp; cases hp
        | some pa =>
          cases hb : pts l f r.right with
          | none => rw [ha, hb] at hp; cases hp
          | some pb =>
            rw [ha, hb] at hp
            obtain ⟨xa, xb, rfl, h1, h2⟩ := txts_app (Option.some.inj hp).symm
            subst h1 h2
            rw [List.length_append] at hN
            have hfit := hfits r (List.mem_of_getElem? hr)
            have hin : i < n := by
              have := (List.getElem?_eq_some_iff.1 hr).1
              rw [ht.reads.len5] at this; exact this
            obtain ⟨zb, zo, r', rfl, hzb, hr', -, c1, c2, -, -⟩ := ht.reads.rk hin
            obtain rfl := Option.some.inj (hr'.symm.trans hr)
            have hu0 : idxM l name = some (.int .i64 (i : Int)) := by unfold idxM; rw [hi]; rfl
            have hu2 : ((idxM l name).getD (.int .i64 0)) = .int .i64 (i : Int) := by rw [hu0]; rfl
            have hu3 : (idxM l name).isSome = true := by rw [hu0]; rfl
            have t1 : W.cell? ⟨tb, 1, none⟩ = some (.map (some mb)) := ht.tree.cell 1
            have t0 : W.cell? ⟨tb, 0, none⟩ = some (.slice (some ⟨zb, zo, none⟩) n c) := ht.tree.cell 0
            have hmap := ht.map
            have HT := Lib.hid ht
            have ih1 := (ih r'.left xa (m - 1) pre W hfit.left ha ht hJ (by omega)).mono (R' := fun e W1 =>
              (e = .returned (.bool true) ∧ W1.cell? ⟨tb, 0, none⟩ = some (.slice (some ⟨zb, zo, none⟩) n c) ∧ W1.cell? ⟨zb, zo + i * 5 + 2, none⟩ = some (.string r'.right) ∧ Below n₀ W W1 ∧
                CallsIn Fence.wide (m - 1) Try.prog 105 #[.pointer (some ⟨tb, 0, none⟩), .string r'.right, .func (.yield lp) #[] #[]] W1 fun e W' =>
                  (e = .returned (.bool true) ∧ J (pre ++ xa ++ xb) W' ∧ Below n₀ W1 W') ∨ (e = .returned (.bool false) ∧ ∃ q, q <+: xb ∧ Jx (pre ++ xa ++ q) W')) ∨
              (e = .returned (.bool false) ∧ ∃ q, q <+: xa ∧ Jx (pre ++ q) W1))
              (fun e W1 h => h.elim (fun ⟨he, hj, hb1⟩ => .inl ⟨he, ((ht.below hb1).tree).cell 0, (hb1.cell (p := ⟨zb, zo + i * 5 + 2, none⟩) hzb).trans c2, hb1,
                ih r'.right xb (m - 1) (pre ++ xa) W1 hfit.right hb (ht.below hb1) hj (by simp; omega)⟩) .inr)
            clear ih hY ht hr hr' hi ha hb hp hu0 hfit
            refine callsIn_of_wp Try.func105 rfl trivial ?_ rfl
            simp only [Try.ntmps105, List.size_toArray, List.length_cons, List.length_nil, Nat.reduceAdd, Nat.reduceSub, Array.replicate_succ, Array.replicate_zero, List.push_toArray, List.append_toArray, List.nil_append, List.cons_append]
            gi_wp2_with (first
              | (gi_at_lookup; refine wpListIn_look _ rfl _ _ _ rfl Try.underlying9 Try.underlying129 (zero_int _) hmap rfl _ rfl hnm ?_; simp only [hu2, hu3])
              | ((try refine ⟨hdd _, ?_⟩); gi_at_call 105; refine ih1.mono ?_; clear ih1; rintro e W1 (⟨rfl, d0, d2, hb1, ih2⟩ | ⟨rfl, q, hq, hx1⟩))
              | ((try refine ⟨hdd _, ?_⟩); gi_at_call 105; refine ih2.mono ?_; clear ih2; rintro e W3 (⟨rfl, hJ3, hb3⟩ | ⟨rfl, q, hq, hx3⟩)))
            · go_ret
              exact .inl ⟨rfl, by simpa [List.append_assoc] using hJ3, hb1.trans hb3⟩
            · go_ret
              exact .inr ⟨rfl, xa ++ q, by simpa using hq, by simpa [List.append_assoc] using hx3⟩
            · go_ret
              exact .inr ⟨rfl, q, hq.trans (by simp), hx1⟩

set_option maxHeartbeats 1000000 in
theorem below1_in (l : List Rk) (hfits : ∀ r ∈ l, r.Fits) (A : Option Addr) (n c tb mb : Nat) (top : Int) (n₀ : Nat) (hn : n ≤ 1000000) (lp Bt Bn : Nat) (f : Nat) (name : ByteArray) (xs : List Txt) (hnm : name.size ≤ maxLen) (hp : pts l f name = some (txts xs)) (m : Nat) (J Jx : List Txt → World → Prop)
    (hY : ∀ pre (x : Txt) W, J pre W → pre.length < xs.length → YieldAt Fence.wide (m - 1) Try.prog lp #[.string x.1] W fun e W' =>
      (e = .returned (.bool true) ∧ J (pre ++ [x]) W' ∧ Below n₀ W W') ∨ (e = .returned (.bool false) ∧ Jx (pre ++ [x]) W'))
    (W : World) (hBt : W.cell? ⟨Bt, 0, none⟩ = some (.pointer (some ⟨tb, 0, none⟩))) (hBn : W.cell? ⟨Bn, 0, none⟩ = some (.string name)) (hT : TreeAt l A n c tb mb top n₀ W) (h0 : J [] W) :
    CallsIn Fence.wide m Try.prog 104 #[.func (.yield lp) #[] #[], .pointer (some ⟨Bt, 0, none⟩), .pointer (some ⟨Bn, 0, none⟩)] W fun e W' => (∃ v, e = .returned v) ∧
      ((∃ ys, ys = xs ∧ J ys W') ∨ (∃ pre, pre <+: xs ∧ Jx pre W')) := by
  have hdd : ∀ k : Nat, (Fence.wide.depth.isSome = true → 1 ≤ k) := fun k h => by cases h
  have hfn : Fence.wide.fn 105 := trivial
  have hw := walk_in l hfits A n c tb mb top n₀ hn lp xs.length J Jx (fun m' pre x W hj hl => YieldAt.anyD rfl m' (hY pre x W hj hl)) f name xs (m - 1) [] W hnm hp hT h0 (by simp)
  clear hY hT
  refine callsIn_of_wp Try.func104 rfl trivial ?_ rfl
  simp only [Try.ntmps104, List.size_toArray, List.length_cons, List.length_nil, Nat.reduceAdd, Nat.reduceSub, Array.replicate_succ, Array.replicate_zero, List.push_toArray, List.append_toArray, List.nil_append, List.cons_append]
  gi_wp2_with ((try refine ⟨hdd _, ?_⟩); gi_at_call 105; refine hw.mono ?_; clear hw; rintro e W1 (⟨rfl, hJ1, _⟩ | ⟨rfl, q, hq, hx⟩))
  · go_end0
    exact ⟨⟨_, rfl⟩, .inl ⟨_, rfl, by simpa using hJ1⟩⟩
  · go_end0
    exact ⟨⟨_, rfl⟩, .inr ⟨q, hq, by simpa using hx⟩⟩

set_option maxHeartbeats 1000000 in
theorem below_any (t : Option Addr) (name : ByteArray) (w : World) :
    Calls Try.prog 89 #[.pointer t, .string name] w fun e w' => e = .returned (.func (.func 104) #[] #[.pointer (some ⟨w.heap.size, 0, none⟩), .pointer (some ⟨w.heap.size + 1, 0, none⟩)]) ∧
      w' = (w.alloc (.cells #[.pointer t] 91)).alloc (.cells #[.string name] 9) := by
  go_enter Try.func89, Try.ntmps89
  go_wp2
  go_ret
  exact ⟨rfl, rfl⟩

/-- What the iterator gives: the points below a thing. -/
theorem below_stops (l : List Rk) (hfits : ∀ r ∈ l, r.Fits) (A : Option Addr) (n c tb mb : Nat) (top : Int) (n₀ : Nat) (hn : n ≤ 1000000) (Bt Bn : Nat) (f : Nat) (name : ByteArray) (xs : List Txt) (hnm : name.size ≤ maxLen) (hp : pts l f name = some (txts xs)) (m : Nat) (w : World)
    (h1 : Bt < w.heap.size) (h2 : Bn < w.heap.size) (h3 : n₀ ≤ w.heap.size) (hBt : w.cell? ⟨Bt, 0, none⟩ = some (.pointer (some ⟨tb, 0, none⟩))) (hBn : w.cell? ⟨Bn, 0, none⟩ = some (.string name)) (hT : TreeAt l A n c tb mb top n₀ w) :
    SeqStopsK Fence.wide m Try.prog 104 #[.pointer (some ⟨Bt, 0, none⟩), .pointer (some ⟨Bn, 0, none⟩)] (fun x : Txt => #[Value.string x.1]) (Below n₀) (fun ys => ys = xs) (fun pre => pre <+: xs) xs.length w := fun lp J Jx W hW _ _ hY h0 =>
  below1_in l hfits A n c tb mb top n₀ hn lp Bt Bn f name xs hnm hp m J Jx hY W ((hW.cell (p := ⟨Bt, 0, none⟩) h1).trans hBt) ((hW.cell (p := ⟨Bn, 0, none⟩) h2).trans hBn) (hT.below (hW.mono h3)) h0

end Go.Proofs.Ytoiconebcmneiab

end

section
/- The contracts of the collection of what an iterator gives, and of the points of a tree. -/
namespace Go.Proofs.Ytoiconebcmneiab
open Go.RowKit Go.Shelf Go.Maps

attribute [local go_sem] Oper.semAt_some

theorem info_str : (Try.prog.info? 9).map (fun i => (i.zero, i.size, i.bytes)) = some (some (.string ByteArray.empty), 1, 16) := by kernel_rfl

/-- An iterator over texts. -/
def Gives (gf : Nat) (lb : Array Value) (n₀ : Nat) (xs : List Txt) (w : World) : Prop :=
  ∀ m, SeqStopsK Fence.wide m Try.prog gf lb (fun x : Txt => #[Value.string x.1]) (Below n₀) (fun ys => ys = xs) (fun pre => pre <+: xs) xs.length w

set_option maxRecDepth 100000 in
set_option maxHeartbeats 4000000 in
theorem appendSeq_any (gf : Nat) (lb : Array Value) (eg : ∀ args w, (callFunc gf args).run Try.prog w = .ok (.enter gf args) w) (xs : List Txt) (hlen : xs.length ≤ 1000000) (w : World) (hseq : Gives gf lb w.heap.size xs w) :
    CallsIn Fence.wide 10 Try.prog 107 #[.slice none 0 0, .func (.func gf) #[] lb] w fun e W' => ∃ v, e = .returned v ∧ W'.ownsRow w.heap.size 9 1 v xs.length (xs.map encT) ∧ Below w.heap.size w W' := by
  obtain ⟨i0, hi, hz0, hz1, hz2⟩ := info_parts info_str
  refine callsIn_of_wp_marks Try.func107 rfl trivial ?_ rfl
  simp only [Try.ntmps107, List.size_toArray, List.length_cons, List.length_nil, Nat.reduceAdd, Nat.reduceSub, Array.replicate_succ, Array.replicate_zero, List.push_toArray, List.append_toArray, List.nil_append, List.cons_append]
  gi_wp2
  have bO := Boxed.new w 77 (.slice none 0 0)
  have hB0 : Below w.heap.size w (w.alloc (.cells #[.slice none 0 0] 77)) := (Below.refl _ w).alloc (Nat.le_refl _) _
  refine wpIn_rangeFunc_ownG rfl (by decide) (gf := gf) (lb := lb) rfl trivial eg
    (hseq 9) belowK_t (belowK_b (by simp)) hB0 (fun _ => rfl)
    (fun (pre : List Txt) W => (∃ v, Boxed W w.heap.size 77 v ∧ W.ownsRow w.heap.size 9 1 v pre.length (pre.map encT) ∧ True) ∧ Below w.heap.size w W)
    (fun _ _ _ => False)
    (OwnFrom.and (Own.from (holdsRow_own w.heap.size w.heap.size 77 9 1 (fun (pre : List Txt) => pre.length) (fun (pre : List Txt) => pre.map encT) (fun _ _ => True)) _) (ownFrom_below (Nat.le_refl _) (by simp)))
    (fun _ _ _ _ _ hs _ _ => hs)
    ⟨⟨_, bO, World.ownsRow_nil _ _ _ _, trivial⟩, hB0⟩
    (fun x => { tmps := #[.slice none 0 0, .func (.func gf) #[] lb, .pointer (some ⟨w.heap.size, 0, none⟩), undef, .slice none 0 0, .string x.1, .func (.func gf) #[] lb, .string x.1, undef, undef, undef, undef, undef], defers := [] }) ?assign ?body ?done ?stop
  case assign =>
    intro l x W K hK
    gi_wp2
    exact hK
  case body =>
    rintro l pre x W ⟨⟨v, hv, hrow, -⟩, hB⟩ hlt
    have hc := hv.cell
    gi_wp2_with (gi_at_builtin; refine wpListIn_append_own _ rfl _ _ 77 rfl w.heap.size 9 i0 (.string ByteArray.empty) 1 16 Try.underlying77 hi hz0 hz1 hz2 rfl (by decide) _ _ _ rfl (hrow.alloc _) ⟨W.heap.size, 0, none⟩ 1 1 [encT x] rfl rfl (cell_one_new _ _ _) (by simp [encT, Value.oneCell']) (by unfold maxLen; omega) (by omega) (by have := hB.size; simp; omega) ?_; intro v' w1 hown' hgrow _; obtain ⟨g', cap', rfl⟩ := ownsRow_succ hown'; obtain ⟨hv1, hv2, hr2, hk2, hb2⟩ := hv.appended (by decide) hrow hB.size (Nat.le_refl _) hown' hgrow; have hc1 := hv1.cell; have hf1 := hv1.frozen)
    exact ⟨hk2.from _, hb2, ⟨_, hv2, by simpa using hr2, trivial⟩, hB.trans hb2⟩
  case done =>
    rintro D ys W hD rfl ⟨⟨v, hv, hrow, -⟩, hB⟩ hK
    have hc := hv.cell
    gi_wp2
    refine ⟨by simp, .inl ⟨_, _, rfl, run_takeDeferred hK, ?_⟩⟩
    exact ⟨_, results_tmp rfl _ _ _, v, rfl, ownsRow_putObj hrow _ hK rfl, hB.trans (belowK_b (w := w) (Nat.le_refl _) W D _ _ (by simp at hD; omega) hK rfl rfl)⟩
  case stop =>
    rintro D c pre W _ _ h _
    exact h.elim

theorem collect_any (gf : Nat) (lb : Array Value) (eg : ∀ args w, (callFunc gf args).run Try.prog w = .ok (.enter gf args) w) (xs : List Txt) (hlen : xs.length ≤ 1000000) (w : World) (hseq : Gives gf lb w.heap.size xs w) :
    Calls Try.prog 92 #[.func (.func gf) #[] lb] w fun e W' => ∃ v, e = .returned v ∧ W'.ownsRow w.heap.size 9 1 v xs.length (xs.map encT) ∧ Below w.heap.size w W' := by
  have ha := callsIn_wide.1 (appendSeq_any gf lb eg xs hlen w hseq)
  clear hseq
  go_enter Try.func92, Try.ntmps92
  go_wp2_with fail
  refine ha.mono ?_
  rintro e w1 ⟨v, rfl, h1, h2⟩
  go_wp2
  go_ret
  exact ⟨_, rfl, h1, h2⟩

end Go.Proofs.Ytoiconebcmneiab

end

section
/- Copies of lists: what append to an empty list of its own makes, and the contracts of the functions that copy. -/
namespace Go.Proofs.Ytoiconebcmneiab
open Go.RowKit

theorem copy_run {P : Program} (t ty e : TypeId) (z : Value) (size bytes : Nat) (ht : P.underlying t = some (.slice e)) (hi : (P.info? e).map (fun i => (i.zero, i.size, i.bytes)) = some (some z, size, bytes)) (hzs : z.cells.size = size) (hsz : 0 < size)
    (w : World) (N : Nat) (A : Option Addr) (n c : Nat) (xs : List Value) (hr : Reads w N size A n xs) (hN : N ≤ w.heap.size) (h1 : ∀ u ∈ xs, u.oneCell' = true) (hn : n ≤ maxLen) (hbytes : n * bytes ≤ 140737488355328) :
    ∃ v' W2, (Builtin.append_ #[t, t] ty #[.slice (some ⟨w.heap.size, 0, none⟩) 0 0, .slice A n c]).run P (w.alloc (.cells #[] e)) = .ok v' W2 ∧ W2.ownsRow w.heap.size e size v' n xs ∧ Below w.heap.size w W2 := by
  obtain ⟨i0, hi0, hz0, hz1, hz2⟩ := info_parts hi
  have ho : (w.alloc (.cells #[] e)).ownsRow w.heap.size e size (.slice (some ⟨w.heap.size, 0, none⟩) 0 0) 0 [] :=
    ⟨by simp, .inr ⟨w.heap.size, 0, #[], rfl, Nat.le_refl _, Blk.new _ _ _, by omega, by decide, by simp, by simp⟩⟩
  obtain ⟨v', W2, hrun, ho2, hg, -⟩ := run_append_any (P := P) (w.alloc (.cells #[] e)) w.heap.size t ty e i0 z size bytes ht hi0 hz0 hz1 hz2 hzs hsz _ 0 [] ho N A n c xs (hr.alloc hN _) h1 (by omega) (by rw [Nat.zero_add]; omega) (by simp)
  refine ⟨v', W2, hrun, by simpa using ho2, ?_⟩
  exact ((Below.refl _ _).alloc (Nat.le_refl _) _).grown hg (by simp) (fun k hk => (own_lt ho hk).1)

theorem one_cells2 (l : List (Int × Int)) : ∀ u ∈ cells2 l, u.oneCell' = true := by
  intro u hu
  unfold cells2 at hu
  rw [List.mem_flatMap] at hu
  obtain ⟨p, -, hp⟩ := hu
  simp at hp
  rcases hp with rfl | rfl <;> rfl
theorem one_ints (l : List Int) : ∀ u ∈ l.map (Value.int .i64), u.oneCell' = true := by
  intro u hu
  obtain ⟨p, -, rfl⟩ := List.mem_map.1 hu
  rfl

theorem info_pair : (Try.prog.info? 74).map (fun i => (i.zero, i.size, i.bytes)) = some (some (.agg #[.int .i64 0, .int .i64 0]), 2, 16) := by kernel_rfl

theorem info_range : (Try.prog.info? 97).map (fun i => (i.zero, i.size, i.bytes)) = some (some (.agg #[.int .i64 0, .int .i64 0]), 2, 16) := by kernel_rfl

theorem info_int : (Try.prog.info? 3).map (fun i => (i.zero, i.size, i.bytes)) = some (some (.int .i64 0), 1, 8) := by kernel_rfl

/-- A copy: the elements, in memory of its own. -/
def CopyPost (w : World) (e : TypeId) (size n : Nat) (xs : List Value) (en : Ending) (w' : World) : Prop :=
  ∃ A c, en = .returned (.slice A n c) ∧ Below w.heap.size w w' ∧ Reads w' w'.heap.size size A n xs ∧ w'.ownsRow w.heap.size e size (.slice A n c) n xs
theorem CopyPost.of {w w' : World} {e : TypeId} {size n : Nat} {xs : List Value} {v : Value} (ho : w'.ownsRow w.heap.size e size v n xs) (hb : Below w.heap.size w w') : CopyPost w e size n xs (.returned v) w' := by
  obtain ⟨A, c, rfl, hr⟩ := own_reads ho
  exact ⟨A, c, rfl, hb, hr, ho⟩




theorem copyints_any (A : Option Addr) (n c N : Nat) (l : List Int) (w : World) (hx : Reads w N 1 A n (l.map (.int .i64))) (hN : N ≤ w.heap.size) (hn : n ≤ 1000000) :
    Calls Try.prog 20 #[.slice A n c] w (CopyPost w 3 1 n (l.map (.int .i64))) := by
  obtain ⟨v', W2, hrun, ho, hb⟩ := copy_run (P := Try.prog) 40 40 3 _ 1 8 Try.underlying40 info_int rfl (by omega) w N A n c (l.map (.int .i64)) hx hN (one_ints l) (by unfold maxLen; omega) (by omega)
  have HRUN := Lib.hid hrun
  have HO := Lib.hid ho
  have HB := Lib.hid hb
  clear hrun ho hb
  go_enter Try.func20, Try.ntmps20
  go_wp2_with (first | (at_builtin; refine wpList_app _ W2 v' rfl _ _ _ rfl _ _ rfl rfl HRUN.out ?_))
  go_ret
  exact CopyPost.of HO.out HB.out

end Go.Proofs.Ytoiconebcmneiab

end
