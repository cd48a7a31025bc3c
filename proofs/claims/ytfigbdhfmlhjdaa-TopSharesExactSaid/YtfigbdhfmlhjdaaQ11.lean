import Derived.Test.YtfigbdhfmlhjdaaQ10
import Derived.Test.YtfigbdhfmlhjdaaQ9

section
/- Contracts of the reference's top, of the points below a name, of all points. -/
namespace Go.Proofs.Ytfigbdhfmlhjdaa
open Go.RowKit

theorem top_name {l : List Rk} (h : openErr l = 0) {k : Nat} {r : Rk} (hr : l[k]? = some r) (hb : hasB (borneAll l) r.name = false) : topName l = r.name := by
  obtain ⟨j, hj, hT, htop, hone⟩ := tops_one h
  have hk : k < l.length := (List.getElem?_eq_some_iff.1 hr).1
  have hkT : isTop l k = true := by rw [isTop_mem hr, hb]; rfl
  have e := hone k hk hkT
  subst e
  unfold topName
  rw [htop, hr]
  rfl

set_option maxRecDepth 100000 in
set_option maxHeartbeats 1000000 in
theorem rtop_any (l : List Rk) (hf : ∀ r ∈ l, r.Fits) (A : Option Addr) (n c N : Nat) (w : World) (hx : Reads w N 5 A n (rkCells l)) (hN : N ≤ w.heap.size) (hn : n ≤ 100000) (h0 : openErr l = 0) :
    Calls Try.prog 16 #[.slice A n c] w fun e w' => e = .returned (.string (topName l)) ∧ Below w.heap.size w w' := by
  have hxl := Lib.hid hx.len5
  have HX := Lib.hid hx
  have H0 := Lib.hid h0
  clear hx h0
  go_enter Try.func16, Try.ntmps16
  go_wp2_with fail
  refine (borne_any l A n c N _ HX.out hN hn).mono ?_
  rintro e w1 ⟨hb, A', c', rfl, hcc, hrr⟩
  have HB1 := Lib.hid (show Below w.heap.size w w1 from step_below hb (by repeat' (first | exact Below.refl _ _ | exact HB0.out | refine below_drewN ?_ _ | refine Below.drew ?_ | refine Below.alloc ?_ (by first | omega | (simp; done) | (simp; omega) | (simp [World.setCell]; omega)) _ | refine Below.setCell ?_ (by first | omega | (simp; done) | (simp; omega)) _ | assumption)))
  have hz1 := hb.size
  try simp only [World.size_alloc, World.drewN, World.drew] at hz1
  clear hb
  have HRR := Lib.hid hrr
  clear hrr
  obtain ⟨m, hm⟩ : ∃ m, 2 * n = m := ⟨_, rfl⟩
  rw [hm] at HRR hcc
  rw [hm]
  have hm2 : m ≤ 200000 := by omega
  have HM := Lib.hid hm
  clear hm
  have HX1 := Lib.hid (HX.out.belowLe HB1.out hN)
  go_wp2
  go_loop [4] (fun i => ∃ k : Nat, k ≤ n ∧ i = .int .i64 k ∧ ∀ j, j < k → ∀ r, l[j]? = some r → hasB (borneAll l) r.name = true) (fun i => n - (intOf i).toNat)
  case atStart => exact ⟨0, by omega, rfl, fun j hj => by omega⟩
  case round =>
    obtain ⟨k, hk, rfl, hno⟩ := hrel
    have HNO := Lib.hid hno
    clear hno
    by_cases hlt : k < n
    · obtain ⟨xb, xo, r, rfl, hxb, hr, c0, -, -, -, -⟩ := HX1.out.rk hlt
      have HR := Lib.hid hr
      clear hr
      go_wp2_with fail
      obtain ⟨t1, ht1⟩ : ∃ t, hasB (borneAll l) r.name = t := ⟨_, rfl⟩
      refine (hastext_is (borneAll l) _ m c' _ r.name t1 ht1 _ HRR.out (by omega)).mono ?_
      rintro e w' ⟨rfl, rfl⟩
      cases t1
      · have HT := Lib.hid (top_name H0.out HR.out ht1)
        clear ht1
        go_wp2
        go_ret
        exact ⟨by rw [HT.out]; rfl, HB1.out⟩
      · have HT := Lib.hid ht1
        clear ht1
        go_wp2
        go_round
        case rel =>
          refine ⟨k + 1, by omega, by go_num, fun j hj r' hr' => ?_⟩
          rcases Nat.lt_succ_iff_lt_or_eq.1 hj with hj | hj
          · exact HNO.out j hj r' hr'
          · subst hj
            obtain rfl := Option.some.inj (hr'.symm.trans HR.out)
            exact HT.out
        case measure => simp [intOf]; omega
    · exfalso
      obtain ⟨j, hj, hT, -, -⟩ := tops_one H0.out
      have hr := List.getElem?_eq_getElem hj
      rw [isTop_mem hr, HNO.out j (by rw [hxl.out] at hj; omega) _ hr] at hT
      cases hT

/-- What operation c yields is owned, until operation s (an append, a store) comes. -/
def OwnM (base : Nat) (e : TypeId) (size n : Nat) (xs : List Value) (c s : Nat) (g : Nat → Option Pick) (f : Nat → Bool) (w' : World) : Prop := ∀ x, g c = some x → f s = false → w'.ownsRow base e size (.slice x.1 n x.2) n xs
section
variable {base size n c s i k : Nat} {e : TypeId} {xs : List Value} {g : Nat → Option Pick} {f : Nat → Bool} {w' w'' : World} {x : Pick}
theorem OwnM.start : OwnM base e size n xs c s (fun _ => none) f w' := fun x h => by cases h
theorem OwnM.step (h : OwnM base e size n xs c s g f w') (hb : Below w'.heap.size w' w'') (hk : k ≠ s) : OwnM base e size n xs c s g (Fx.add f k) w'' := fun x hx hf => by
  rw [add_ne' hk] at hf
  exact own_below (h x hx hf) hb (Nat.le_refl _)
theorem OwnM.other (h : OwnM base e size n xs c s g f w') (hc : c ≠ i) : OwnM base e size n xs c s (Fx.upd g i x) f w' := fun y hy => h y (by rwa [upd_ne hc] at hy)
theorem OwnM.new (h : w'.ownsRow base e size (.slice x.1 n x.2) n xs) : OwnM base e size n xs c s (Fx.upd g c x) f w' := fun y hy _ => by rw [Fx.upd_same] at hy; cases hy; exact h
theorem OwnM.stored : OwnM base e size n xs c s g (Fx.add f s) w'' := fun x _ hf => by rw [add_same] at hf; cases hf
end

theorem one_strs (ps : List ByteArray) : ∀ u ∈ strs ps, u.oneCell' = true := by
  intro u hu
  obtain ⟨x, -, rfl⟩ := List.mem_map.1 hu
  rfl

def BelowPost (ps : List ByteArray) (w : World) (e : Ending) (w' : World) : Prop :=
  Below w.heap.size w w' ∧ ∃ A' c', e = .returned (.slice A' ps.length c') ∧ w'.ownsRow w.heap.size 9 1 (.slice A' ps.length c') ps.length (strs ps)

set_option maxHeartbeats 1000000 in
theorem rbelow_leaf (l : List Rk) (A : Option Addr) (n c N : Nat) (hn : n ≤ 100000) (name : ByteArray) (w : World) (hi : idxOf l name = none) (hx : Reads w N 5 A n (rkCells l)) :
    Calls Try.prog 35 #[.slice A n c, .string name] w (BelowPost [name] w) := by
  have HF : Hid (findI l name = -1) := by show _ = _; unfold findI; rw [hi]
  have HX := Lib.hid hx
  clear hx hi
  go_enter Try.func35, Try.ntmps35
  go_wp2_with (go_at_call 15; refine (find_is l _ n c N name (-1) HF.out _ HX.out (by omega)).mono ?_; rintro e w' ⟨rfl, rfl⟩)
  go_ret
  refine ⟨(Below.refl _ _).alloc (Nat.le_refl _) _, some ⟨w.heap.size, 0, none⟩, 1, rfl, rfl, .inr ⟨w.heap.size, 1, #[.string name], rfl, Nat.le_refl _, Blk.new _ _ _, by simp, by decide, by simp, by simp [strs]⟩⟩

set_option maxRecDepth 100000 in
set_option maxHeartbeats 2000000 in
theorem rbelow_any (l : List Rk) (hfits : ∀ r ∈ l, r.Fits) (A : Option Addr) (n c N : Nat) (hn : n ≤ 100000) :
    ∀ (f : Nat) (name : ByteArray) (ps : List ByteArray) (w : World), pts l f name = some ps → Reads w N 5 A n (rkCells l) → N ≤ w.heap.size → ps.length ≤ 1000000 →
      Calls Try.prog 35 #[.slice A n c, .string name] w (BelowPost ps w) := by
  intro f
  induction f with
  | zero =>
    intro name ps w hp hx hN hps
    unfold pts at hp
    cases hi : idxOf l name with
    | some i => rw [hi] at hp; cases hp
    | none =>
      rw [hi] at hp
      obtain rfl := Option.some.inj hp
      exact rbelow_leaf l A n c N hn name w hi hx
  | succ f ih =>
    intro name ps w hp hx hN hps
    cases hi : idxOf l name with
    | none =>
      unfold pts at hp
      rw [hi] at hp
      obtain rfl := Option.some.inj hp
      exact rbelow_leaf l A n c N hn name w hi hx
    | some i =>
      unfold pts at hp
      rw [hi] at hp
      simp only at hp
      cases hr : l[i]? with
      | none => rw [hr] at hp; cases hp
      | some r =>
        rw [hr] at hp
        simp only at hp
        cases ha : pts l f r.left with
        | none => rw [ha] at hp; cases hp
        | some pa =>
          cases hb : pts l f r.right with
          | none => rw [ha, hb] at hp; cases hp
          | some pb =>
            rw [ha, hb] at hp
            obtain rfl := Option.some.inj hp
            rw [List.length_append] at hps
            have hin : i < n := by
              have := (List.getElem?_eq_some_iff.1 hr).1
              rw [hx.len5] at this; exact this
            obtain ⟨zb, zo, r', rfl, hzb, hr', -, c1, c2, -, -⟩ := hx.rk hin
            obtain rfl := Option.some.inj (hr'.symm.trans hr)
            have HF : Hid (findI l name = (i : Int)) := by show _ = _; unfold findI; rw [hi]
            have HX := Lib.hid hx
            have HA := Lib.hid ha
            have HB := Lib.hid hb
            have IH := Lib.hid ih
            obtain ⟨i0, hi0, hz0, hz1, hz2⟩ := info_parts info_str2
            have HI0 := Lib.hid hi0
            have HZ0 := Lib.hid hz0
            have HZ1 := Lib.hid hz1
            have HZ2 := Lib.hid hz2
            clear hx hi hp hr hr' ha hb ih hi0 hz0 hz1 hz2
            go_enter Try.func35, Try.ntmps35
            go_wp2_with (go_at_call 15; refine (find_is l _ n c N name (i : Int) HF.out _ HX.out (by omega)).mono ?_; rintro e w' ⟨rfl, rfl⟩)
            refine Fx.regionM (fun W g f w' => Below W.heap.size W w' ∧ OwnM W.heap.size 9 1 pa.length (strs pa) 6 14 g f w' ∧ OwnM W.heap.size 9 1 pb.length (strs pb) 13 14 g f w' ∧ OwnM W.heap.size 9 1 (pa.length + pb.length) (strs (pa ++ pb)) 14 99 g f w') (fun i (x : Pick) => if i = 6 then .slice x.1 pa.length x.2 else if i = 13 then .slice x.1 pb.length x.2 else .slice x.1 (pa.length + pb.length) x.2) (by kernel_rfl) ?_ ?_
            · intro f hf0
              exact ⟨below_drewN (Below.refl _ _) 1, OwnM.start, OwnM.start, OwnM.start⟩
            first
            | (refine Fx.WM.skip 0 (by rfl) (by kernel_rfl) (by kernel_rfl) (by kernel_rfl) (by rfl) (fun g f w h => h) ?_; simp only [Act.put, List.setIfInBounds_toArray, List.set_cons_zero, List.set_cons_succ])
            | (refine Fx.WM.val_ 0 ?_ (by rfl) (by kernel_rfl) (by kernel_rfl) (by kernel_rfl) (by rfl) ?_ (fun g f w h => h) ?_
               rotate_left
               · intro g f w' hx hD hk
                 obtain ⟨hb, h1, h2, h3⟩ := id hD
                 have y0 := (hb.cell (p := ⟨zb, zo + i * 5 + 1, none⟩) (by show zb < _; omega)).trans c1
                 have y1 := (hb.cell (p := ⟨zb, zo + i * 5 + 2, none⟩) (by show zb < _; omega)).trans c2
                 clear hx hk hD hb h1 h2 h3
                 go_simp
                 try rfl
               simp only [Act.put, List.setIfInBounds_toArray, List.set_cons_zero, List.set_cons_succ])
            first
            | (refine Fx.WM.skip 1 (by rfl) (by kernel_rfl) (by kernel_rfl) (by kernel_rfl) (by rfl) (fun g f w h => h) ?_; simp only [Act.put, List.setIfInBounds_toArray, List.set_cons_zero, List.set_cons_succ])
            | (refine Fx.WM.val_ 1 ?_ (by rfl) (by kernel_rfl) (by kernel_rfl) (by kernel_rfl) (by rfl) ?_ (fun g f w h => h) ?_
               rotate_left
               · intro g f w' hx hD hk
                 obtain ⟨hb, h1, h2, h3⟩ := id hD
                 have y0 := (hb.cell (p := ⟨zb, zo + i * 5 + 1, none⟩) (by show zb < _; omega)).trans c1
                 have y1 := (hb.cell (p := ⟨zb, zo + i * 5 + 2, none⟩) (by show zb < _; omega)).trans c2
                 clear hx hk hD hb h1 h2 h3
                 go_simp
                 try rfl
               simp only [Act.put, List.setIfInBounds_toArray, List.set_cons_zero, List.set_cons_succ])
            first
            | (refine Fx.WM.skip 2 (by rfl) (by kernel_rfl) (by kernel_rfl) (by kernel_rfl) (by rfl) (fun g f w h => h) ?_; simp only [Act.put, List.setIfInBounds_toArray, List.set_cons_zero, List.set_cons_succ])
            | (refine Fx.WM.val_ 2 ?_ (by rfl) (by kernel_rfl) (by kernel_rfl) (by kernel_rfl) (by rfl) ?_ (fun g f w h => h) ?_
               rotate_left
               · intro g f w' hx hD hk
                 obtain ⟨hb, h1, h2, h3⟩ := id hD
                 have y0 := (hb.cell (p := ⟨zb, zo + i * 5 + 1, none⟩) (by show zb < _; omega)).trans c1
                 have y1 := (hb.cell (p := ⟨zb, zo + i * 5 + 2, none⟩) (by show zb < _; omega)).trans c2
                 clear hx hk hD hb h1 h2 h3
                 go_simp
                 try rfl
               simp only [Act.put, List.setIfInBounds_toArray, List.set_cons_zero, List.set_cons_succ])
            first
            | (refine Fx.WM.skip 3 (by rfl) (by kernel_rfl) (by kernel_rfl) (by kernel_rfl) (by rfl) (fun g f w h => h) ?_; simp only [Act.put, List.setIfInBounds_toArray, List.set_cons_zero, List.set_cons_succ])
            | (refine Fx.WM.val_ 3 ?_ (by rfl) (by kernel_rfl) (by kernel_rfl) (by kernel_rfl) (by rfl) ?_ (fun g f w h => h) ?_
               rotate_left
               · intro g f w' hx hD hk
                 obtain ⟨hb, h1, h2, h3⟩ := id hD
                 have y0 := (hb.cell (p := ⟨zb, zo + i * 5 + 1, none⟩) (by show zb < _; omega)).trans c1
                 have y1 := (hb.cell (p := ⟨zb, zo + i * 5 + 2, none⟩) (by show zb < _; omega)).trans c2
                 clear hx hk hD hb h1 h2 h3
                 go_simp
                 try rfl
               simp only [Act.put, List.setIfInBounds_toArray, List.set_cons_zero, List.set_cons_succ])
            first
            | (refine Fx.WM.skip 4 (by rfl) (by kernel_rfl) (by kernel_rfl) (by kernel_rfl) (by rfl) (fun g f w h => h) ?_; simp only [Act.put, List.setIfInBounds_toArray, List.set_cons_zero, List.set_cons_succ])
            | (refine Fx.WM.val_ 4 ?_ (by rfl) (by kernel_rfl) (by kernel_rfl) (by kernel_rfl) (by rfl) ?_ (fun g f w h => h) ?_
               rotate_left
               · intro g f w' hx hD hk
                 obtain ⟨hb, h1, h2, h3⟩ := id hD
                 have y0 := (hb.cell (p := ⟨zb, zo + i * 5 + 1, none⟩) (by show zb < _; omega)).trans c1
                 have y1 := (hb.cell (p := ⟨zb, zo + i * 5 + 2, none⟩) (by show zb < _; omega)).trans c2
                 clear hx hk hD hb h1 h2 h3
                 go_simp
                 try rfl
               simp only [Act.put, List.setIfInBounds_toArray, List.set_cons_zero, List.set_cons_succ])
            first
            | (refine Fx.WM.skip 5 (by rfl) (by kernel_rfl) (by kernel_rfl) (by kernel_rfl) (by rfl) (fun g f w h => h) ?_; simp only [Act.put, List.setIfInBounds_toArray, List.set_cons_zero, List.set_cons_succ])
            | (refine Fx.WM.val_ 5 ?_ (by rfl) (by kernel_rfl) (by kernel_rfl) (by kernel_rfl) (by rfl) ?_ (fun g f w h => h) ?_
               rotate_left
               · intro g f w' hx hD hk
                 obtain ⟨hb, h1, h2, h3⟩ := id hD
                 have y0 := (hb.cell (p := ⟨zb, zo + i * 5 + 1, none⟩) (by show zb < _; omega)).trans c1
                 have y1 := (hb.cell (p := ⟨zb, zo + i * 5 + 2, none⟩) (by show zb < _; omega)).trans c2
                 clear hx hk hD hb h1 h2 h3
                 go_simp
                 try rfl
               simp only [Act.put, List.setIfInBounds_toArray, List.set_cons_zero, List.set_cons_succ])
            first
            | (refine Fx.WM.skip 7 (by rfl) (by kernel_rfl) (by kernel_rfl) (by kernel_rfl) (by rfl) (fun g f w h => h) ?_; simp only [Act.put, List.setIfInBounds_toArray, List.set_cons_zero, List.set_cons_succ])
            | (refine Fx.WM.val_ 7 ?_ (by rfl) (by kernel_rfl) (by kernel_rfl) (by kernel_rfl) (by rfl) ?_ (fun g f w h => h) ?_
               rotate_left
               · intro g f w' hx hD hk
                 obtain ⟨hb, h1, h2, h3⟩ := id hD
                 have y0 := (hb.cell (p := ⟨zb, zo + i * 5 + 1, none⟩) (by show zb < _; omega)).trans c1
                 have y1 := (hb.cell (p := ⟨zb, zo + i * 5 + 2, none⟩) (by show zb < _; omega)).trans c2
                 clear hx hk hD hb h1 h2 h3
                 go_simp
                 try rfl
               simp only [Act.put, List.setIfInBounds_toArray, List.set_cons_zero, List.set_cons_succ])
            first
            | (refine Fx.WM.skip 8 (by rfl) (by kernel_rfl) (by kernel_rfl) (by kernel_rfl) (by rfl) (fun g f w h => h) ?_; simp only [Act.put, List.setIfInBounds_toArray, List.set_cons_zero, List.set_cons_succ])
            | (refine Fx.WM.val_ 8 ?_ (by rfl) (by kernel_rfl) (by kernel_rfl) (by kernel_rfl) (by rfl) ?_ (fun g f w h => h) ?_
               rotate_left
               · intro g f w' hx hD hk
                 obtain ⟨hb, h1, h2, h3⟩ := id hD
                 have y0 := (hb.cell (p := ⟨zb, zo + i * 5 + 1, none⟩) (by show zb < _; omega)).trans c1
                 have y1 := (hb.cell (p := ⟨zb, zo + i * 5 + 2, none⟩) (by show zb < _; omega)).trans c2
                 clear hx hk hD hb h1 h2 h3
                 go_simp
                 try rfl
               simp only [Act.put, List.setIfInBounds_toArray, List.set_cons_zero, List.set_cons_succ])
            first
            | (refine Fx.WM.skip 9 (by rfl) (by kernel_rfl) (by kernel_rfl) (by kernel_rfl) (by rfl) (fun g f w h => h) ?_; simp only [Act.put, List.setIfInBounds_toArray, List.set_cons_zero, List.set_cons_succ])
            | (refine Fx.WM.val_ 9 ?_ (by rfl) (by kernel_rfl) (by kernel_rfl) (by kernel_rfl) (by rfl) ?_ (fun g f w h => h) ?_
               rotate_left
               · intro g f w' hx hD hk
                 obtain ⟨hb, h1, h2, h3⟩ := id hD
                 have y0 := (hb.cell (p := ⟨zb, zo + i * 5 + 1, none⟩) (by show zb < _; omega)).trans c1
                 have y1 := (hb.cell (p := ⟨zb, zo + i * 5 + 2, none⟩) (by show zb < _; omega)).trans c2
                 clear hx hk hD hb h1 h2 h3
                 go_simp
                 try rfl
               simp only [Act.put, List.setIfInBounds_toArray, List.set_cons_zero, List.set_cons_succ])
            first
            | (refine Fx.WM.skip 10 (by rfl) (by kernel_rfl) (by kernel_rfl) (by kernel_rfl) (by rfl) (fun g f w h => h) ?_; simp only [Act.put, List.setIfInBounds_toArray, List.set_cons_zero, List.set_cons_succ])
            | (refine Fx.WM.val_ 10 ?_ (by rfl) (by kernel_rfl) (by kernel_rfl) (by kernel_rfl) (by rfl) ?_ (fun g f w h => h) ?_
               rotate_left
               · intro g f w' hx hD hk
                 obtain ⟨hb, h1, h2, h3⟩ := id hD
                 have y0 := (hb.cell (p := ⟨zb, zo + i * 5 + 1, none⟩) (by show zb < _; omega)).trans c1
                 have y1 := (hb.cell (p := ⟨zb, zo + i * 5 + 2, none⟩) (by show zb < _; omega)).trans c2
                 clear hx hk hD hb h1 h2 h3
                 go_simp
                 try rfl
               simp only [Act.put, List.setIfInBounds_toArray, List.set_cons_zero, List.set_cons_succ])
            first
            | (refine Fx.WM.skip 11 (by rfl) (by kernel_rfl) (by kernel_rfl) (by kernel_rfl) (by rfl) (fun g f w h => h) ?_; simp only [Act.put, List.setIfInBounds_toArray, List.set_cons_zero, List.set_cons_succ])
            | (refine Fx.WM.val_ 11 ?_ (by rfl) (by kernel_rfl) (by kernel_rfl) (by kernel_rfl) (by rfl) ?_ (fun g f w h => h) ?_
               rotate_left
               · intro g f w' hx hD hk
                 obtain ⟨hb, h1, h2, h3⟩ := id hD
                 have y0 := (hb.cell (p := ⟨zb, zo + i * 5 + 1, none⟩) (by show zb < _; omega)).trans c1
                 have y1 := (hb.cell (p := ⟨zb, zo + i * 5 + 2, none⟩) (by show zb < _; omega)).trans c2
                 clear hx hk hD hb h1 h2 h3
                 go_simp
                 try rfl
               simp only [Act.put, List.setIfInBounds_toArray, List.set_cons_zero, List.set_cons_succ])
            first
            | (refine Fx.WM.skip 12 (by rfl) (by kernel_rfl) (by kernel_rfl) (by kernel_rfl) (by rfl) (fun g f w h => h) ?_; simp only [Act.put, List.setIfInBounds_toArray, List.set_cons_zero, List.set_cons_succ])
            | (refine Fx.WM.val_ 12 ?_ (by rfl) (by kernel_rfl) (by kernel_rfl) (by kernel_rfl) (by rfl) ?_ (fun g f w h => h) ?_
               rotate_left
               · intro g f w' hx hD hk
                 obtain ⟨hb, h1, h2, h3⟩ := id hD
                 have y0 := (hb.cell (p := ⟨zb, zo + i * 5 + 1, none⟩) (by show zb < _; omega)).trans c1
                 have y1 := (hb.cell (p := ⟨zb, zo + i * 5 + 2, none⟩) (by show zb < _; omega)).trans c2
                 clear hx hk hD hb h1 h2 h3
                 go_simp
                 try rfl
               simp only [Act.put, List.setIfInBounds_toArray, List.set_cons_zero, List.set_cons_succ])
            refine Fx.WM.choose 6 (by rfl) (by kernel_rfl) (by rfl) ?_ ?_
            · skip
              refine Fx.Chooses.call ?_ ?_ (by rfl) ?_ ?_
              rotate_left 2
              · intro w'
                go_simp
                refine ⟨?_, ?_⟩ <;> rfl
              · intro f w' hD hk
                exact (IH.out r'.left pa w' HA.out (HX.out.belowLe hD.1 hN) (by have := hD.1.size; omega) (by omega)).mono fun e w'' ⟨hb, A', c', he, ho⟩ => ⟨(A', c'), he, step_below hb hD.1, OwnM.new (own_base hD.1.size ho), (hD.2.2.1.step hb (by decide)).other (by decide), (hD.2.2.2.step hb (by decide)).other (by decide)⟩
            intro x
            simp only [Act.put, List.setIfInBounds_toArray, List.set_cons_zero, List.set_cons_succ]
            refine Fx.WM.choose 13 (by rfl) (by kernel_rfl) (by rfl) ?_ ?_
            · skip
              refine Fx.Chooses.call ?_ ?_ (by rfl) ?_ ?_
              rotate_left 2
              · intro w'
                go_simp
                refine ⟨?_, ?_⟩ <;> rfl
              · intro f w' hD hk
                exact (IH.out r'.right pb w' HB.out (HX.out.belowLe hD.1 hN) (by have := hD.1.size; omega) (by omega)).mono fun e w'' ⟨hb, A', c', he, ho⟩ => ⟨(A', c'), he, step_below hb hD.1, (hD.2.1.step hb (by decide)).other (by decide), OwnM.new (own_base hD.1.size ho), (hD.2.2.2.step hb (by decide)).other (by decide)⟩
            intro y
            simp only [Act.put, List.setIfInBounds_toArray, List.set_cons_zero, List.set_cons_succ]
            refine Fx.WM.choose 14 (by rfl) (by kernel_rfl) (by rfl) ?_ ?_
            · refine Fx.Chooses.make (by rfl) ?_
              intro f w' hD hk
              obtain ⟨hb, h1, h2, h3⟩ := hD
              have o1 := h1 x rfl (hk.1)
              have o2 := h2 y rfl (hk.1)
              obtain ⟨A2, c2', e2, hr2⟩ := own_reads o2
              injection e2 with e2a e2b e2c
              subst e2a e2c
              obtain ⟨v', W2, hrun, o3, hg2, hrow⟩ := run_append_any (P := Try.prog) w' w.heap.size 38 38 9 i0 _ 1 16 Try.underlying38 HI0.out HZ0.out HZ1.out HZ2.out rfl (by omega) (.slice x.1 pa.length x.2) pa.length _ o1 w'.heap.size y.1 pb.length y.2 (strs pb) hr2 (one_strs pb) (by unfold maxLen; omega) (by omega) hb.size
              obtain ⟨A3, c3, rfl, -⟩ := own_reads o3
              refine ⟨(A3, c3), W2, ?_, hb.grown hg2 (by have := hb.size; omega) (fun g hg => (own_lt o1 hg).1), OwnM.stored, OwnM.stored, OwnM.new ?_⟩
              · exact exec_append (.tmp 19) (.tmp 26) _ rfl hrun
              · unfold strs at o3 ⊢
                rw [List.map_append]
                exact o3
            intro z
            simp only [Act.put, List.setIfInBounds_toArray, List.set_cons_zero, List.set_cons_succ]
            first
            | (refine Fx.WM.skip 15 (by rfl) (by kernel_rfl) (by kernel_rfl) (by kernel_rfl) (by rfl) (fun g f w h => h) ?_; simp only [Act.put, List.setIfInBounds_toArray, List.set_cons_zero, List.set_cons_succ])
            | (refine Fx.WM.val_ 15 ?_ (by rfl) (by kernel_rfl) (by kernel_rfl) (by kernel_rfl) (by rfl) ?_ (fun g f w h => h) ?_
               rotate_left
               · intro g f w' hx hD hk
                 obtain ⟨hb, h1, h2, h3⟩ := id hD
                 have y0 := (hb.cell (p := ⟨zb, zo + i * 5 + 1, none⟩) (by show zb < _; omega)).trans c1
                 have y1 := (hb.cell (p := ⟨zb, zo + i * 5 + 2, none⟩) (by show zb < _; omega)).trans c2
                 clear hx hk hD hb h1 h2 h3
                 go_simp
                 try rfl
               simp only [Act.put, List.setIfInBounds_toArray, List.set_cons_zero, List.set_cons_succ])
            refine Fx.WM.nil (by kernel_rfl) ?_
            intro wz hD
            have ho := hD.2.2.2 z rfl (by rfl)
            have hbz := hD.1
            clear hD
            go_wp2
            go_ret
            exact ⟨hbz, z.1, z.2, by rw [List.length_append]; rfl, by rw [List.length_append]; exact ho⟩

end Go.Proofs.Ytfigbdhfmlhjdaa

end

section
/- Contracts of all points of a tree as the reference has them, of the comparison of texts, of the guard on short names, of a copy of rockers. -/
namespace Go.Proofs.Ytfigbdhfmlhjdaa
open Go.RowKit

theorem own_reads2 {w : World} {base n size c : Nat} {A : Option Addr} {e : TypeId} {xs : List Value} (h : w.ownsRow base e size (.slice A n c) n xs) : Reads w w.heap.size size A n xs := by
  obtain ⟨A2, c2, e2, hr⟩ := own_reads h
  injection e2 with e2a e2b e2c
  subst e2a e2c
  exact hr

def TextsPost (ps : List ByteArray) (w : World) (e : Ending) (w' : World) : Prop :=
  Below w.heap.size w w' ∧ ∃ A' c', e = .returned (.slice A' ps.length c') ∧ w'.ownsRow w.heap.size 9 1 (.slice A' ps.length c') ps.length (strs ps)

set_option maxHeartbeats 1000000 in
theorem rpoints_any (l : List Rk) (hfits : ∀ r ∈ l, r.Fits) (A : Option Addr) (n c N : Nat) (w : World) (hx : Reads w N 5 A n (rkCells l)) (hN : N ≤ w.heap.size) (hn : n ≤ 100000) (h0 : openErr l = 0) (ps : List ByteArray) (hp : ptsOf l = some ps) (hps : ps.length ≤ 1000000) :
    Calls Try.prog 12 #[.slice A n c] w (TextsPost ps w) := by
  unfold ptsOf at hp
  have HX := Lib.hid hx
  have HP := Lib.hid hp
  have H0 := Lib.hid h0
  clear hx hp h0
  go_enter Try.func12, Try.ntmps12
  go_wp2_with fail
  refine (rtop_any l hfits A n c N _ HX.out hN hn H0.out).mono ?_
  rintro e w1 ⟨rfl, hb⟩
  have HB1 := Lib.hid (show Below w.heap.size w w1 from step_below hb (by repeat' (first | exact Below.refl _ _ | exact HB0.out | refine below_drewN ?_ _ | refine Below.drew ?_ | refine Below.alloc ?_ (by first | omega | (simp; done) | (simp; omega) | (simp [World.setCell]; omega)) _ | refine Below.setCell ?_ (by first | omega | (simp; done) | (simp; omega)) _ | assumption)))
  have hz1 := hb.size
  try simp only [World.size_alloc, World.drewN, World.drew] at hz1
  clear hb
  have hbs := HB1.out.size
  go_wp2_with fail
  refine (rbelow_any l hfits A n c N hn l.length (topName l) ps _ HP.out (HX.out.belowLe HB1.out hN) (by omega) hps).mono ?_
  rintro e w2 ⟨hb2, A', c', rfl, ho⟩
  have HB2 := Lib.hid hb2
  have HO := Lib.hid ho
  clear hb2 ho
  go_wp2
  go_ret
  exact ⟨HB1.out.trans (HB2.out.mono hbs), A', c', rfl, own_base hbs HO.out⟩


/-- The guard on trees: at most 8 rockers, or too many, with short names. -/
def fewB (l : List Rk) : Bool := decide ((l.length ≤ 8 ∨ 40 < l.length) ∧ l.length ≤ 43) && l.all fun r => decide (r.name.size ≤ 20 ∧ r.left.size ≤ 20 ∧ r.right.size ≤ 20)
theorem fewB_len {l : List Rk} (h : fewB l = true) : (l.length ≤ 8 ∨ 40 < l.length) ∧ l.length ≤ 43 := by
  unfold fewB at h
  rw [Bool.and_eq_true, decide_eq_true_iff] at h
  exact h.1
theorem few_pts {l : List Rk} (h : fewB l = true) (h0 : openErr l = 0) : ∃ ps, ptsOf l = some ps ∧ ps.length ≤ 1000000 := by
  have h1 := (open_zero h0).2.1
  have h2 := (fewB_len h).1
  have hl : l.length ≤ 8 := by omega
  cases hp : ptsOf l with
  | none => exact absurd hp (pts_ok h0 _)
  | some ps =>
    refine ⟨ps, rfl, ?_⟩
    have := (pts_len _ _ _ hp).2
    have h3 : 2 ^ l.length ≤ 2 ^ 8 := Nat.pow_le_pow_right (by omega) hl
    omega

set_option maxHeartbeats 1000000 in
theorem few_any (l : List Rk) (hfits : ∀ r ∈ l, r.Fits) (A : Option Addr) (n c N : Nat) (w : World) (hx : Reads w N 5 A n (rkCells l)) (hn : n ≤ 9223372036854775807) :
    Calls Try.prog 6 #[.slice A n c] w fun e w' => e = .returned (.bool (fewB l)) ∧ w = w' := by
  have hxl := Lib.hid hx.len5
  have HX := Lib.hid hx
  clear hx
  by_cases h1 : (8 : Int) < n ∧ (n : Int) ≤ 40
  · have HF : Hid (fewB l = false) := by show _ = _; unfold fewB; rw [hxl.out, decide_eq_false (by omega)]; rfl
    obtain ⟨h1, h2⟩ := h1
    go_enter Try.func6, Try.ntmps6
    go_wp2
    go_ret
    exact ⟨ret_bool HF.out.symm, rfl⟩
  by_cases h2 : (43 : Int) < n
  · have HF : Hid (fewB l = false) := by show _ = _; unfold fewB; rw [hxl.out, decide_eq_false (by omega)]; rfl
    have h8 : (8 : Int) < n := by omega
    have h40 : ¬ (n : Int) ≤ 40 := by omega
    clear h1
    go_enter Try.func6, Try.ntmps6
    go_wp2
    go_ret
    exact ⟨ret_bool HF.out.symm, rfl⟩
  have HL : Hid ((l.length ≤ 8 ∨ 40 < l.length) ∧ l.length ≤ 43) := by show _ ∧ _; rw [hxl.out]; omega
  have hcs : (n : Int) ≤ 8 ∨ ((8 : Int) < n ∧ ¬ (n : Int) ≤ 40) := by omega
  clear h1
  rcases hcs with h8 | ⟨h8, h40⟩
  all_goals
    go_enter Try.func6, Try.ntmps6
    go_wp2
    go_loop [3] (fun i => ∃ k : Nat, k ≤ n ∧ i = .int .i64 k ∧ (l.take k).all (fun r => decide (r.name.size ≤ 20 ∧ r.left.size ≤ 20 ∧ r.right.size ≤ 20)) = true) (fun i => n - (intOf i).toNat)
    case atStart => exact ⟨0, by omega, rfl, by simp⟩
    case round =>
      obtain ⟨k, hk, rfl, hall⟩ := hrel
      have HALL := Lib.hid hall
      clear hall
      by_cases hlt : k < n
      · obtain ⟨xb, xo, r, rfl, hxb, hr, c0, c1, c2, -, -⟩ := HX.out.rk hlt
        have hfit := hfits r (List.mem_of_getElem? hr)
        have f0 := hfit.name
        have f1 := hfit.left
        have f2 := hfit.right
        unfold maxLen at f0 f1 f2
        have HSTOP : Hid (¬ (r.name.size ≤ 20 ∧ r.left.size ≤ 20 ∧ r.right.size ≤ 20) → fewB l = false) := fun hno => by
          unfold fewB
          rw [Bool.and_eq_false_iff]
          right
          rw [List.all_eq_false]
          exact ⟨r, List.mem_of_getElem? hr, by simpa using hno⟩
        have HR := Lib.hid hr
        clear hr hfit
        by_cases g0 : (20 : Int) < r.name.size
        · have HF := Lib.hid (HSTOP.out (by omega))
          go_wp2
          go_ret
          exact ⟨ret_bool HF.out.symm, rfl⟩
        by_cases g1 : (20 : Int) < r.left.size
        · have HF := Lib.hid (HSTOP.out (by omega))
          go_wp2
          go_ret
          exact ⟨ret_bool HF.out.symm, rfl⟩
        by_cases g2 : (20 : Int) < r.right.size
        · have HF := Lib.hid (HSTOP.out (by omega))
          go_wp2
          go_ret
          exact ⟨ret_bool HF.out.symm, rfl⟩
        have HN : Hid ((l.take (k + 1)).all (fun r => decide (r.name.size ≤ 20 ∧ r.left.size ≤ 20 ∧ r.right.size ≤ 20)) = true) := by
          show _ = _
          rw [List.take_add_one, HR.out, List.all_append, HALL.out]
          simp
          omega
        go_wp2
        go_round
        case rel => exact ⟨k + 1, by omega, by go_num, HN.out⟩
        case measure => simp [intOf]; omega
      · have hkn : k = n := by omega
        have HF : Hid (fewB l = true) := by
          show _ = _
          have := HALL.out
          rw [hkn, List.take_of_length_le (by rw [hxl.out]; omega)] at this
          unfold fewB
          rw [this, decide_eq_true HL.out]
          rfl
        clear hkn
        go_wp2
        go_ret
        exact ⟨ret_bool HF.out.symm, rfl⟩

theorem few_is (l : List Rk) (hfits : ∀ r ∈ l, r.Fits) (A : Option Addr) (n c N : Nat) (t : Bool) (ht : fewB l = t) (w : World) (hx : Reads w N 5 A n (rkCells l)) (hn : n ≤ 9223372036854775807) :
    Calls Try.prog 6 #[.slice A n c] w fun e w' => e = .returned (.bool t) ∧ w = w' := ht ▸ few_any l hfits A n c N w hx hn

end Go.Proofs.Ytfigbdhfmlhjdaa

end

section
/- The plain law of sums below a thing: all that lies below a rocker lies below the top. -/
namespace Go.Proofs.Ytfigbdhfmlhjdaa
open Go.RowKit

theorem pts_mono {l : List Rk} : ∀ (f : Nat) (s : ByteArray) (ps : List ByteArray), pts l f s = some ps → pts l (f + 1) s = some ps := by
  intro f
  induction f with
  | zero =>
    intro s ps hp
    unfold pts at hp
    cases hi : idxOf l s with
    | none => rw [hi] at hp; unfold pts; rw [hi]; exact hp
    | some i => rw [hi] at hp; cases hp
  | succ f ih =>
    intro s ps hp
    unfold pts at hp
    cases hi : idxOf l s with
    | none => rw [hi] at hp; unfold pts; rw [hi]; exact hp
    | some i =>
      rw [hi] at hp
      simp only at hp
      cases hr : l[i]? with
      | none => rw [hr] at hp; cases hp
      | some r =>
        rw [hr] at hp
        simp only at hp
        cases ha : pts l f r.left with
        | none => rw [ha] at hp; cases hp
        | some a =>
          cases hb : pts l f r.right with
          | none => rw [ha, hb] at hp; cases hp
          | some b =>
            rw [ha, hb] at hp
            unfold pts
            rw [hi]
            simp only [hr]
            rw [ih _ _ ha, ih _ _ hb]
            exact hp

/-- The points below a thing. -/
def below_ (l : List Rk) (s : ByteArray) : List ByteArray := (pts l l.length s).getD []
theorem below_pts {l : List Rk} (h : openErr l = 0) (s : ByteArray) : pts l l.length s = some (below_ l s) := by
  unfold below_
  cases hp : pts l l.length s with
  | none => exact absurd hp (pts_ok h s)
  | some ps => rfl

theorem idx_name {l : List Rk} (h : err1 [] l = 0) {i : Nat} {r : Rk} (hr : l[i]? = some r) : idxOf l r.name = some i := by
  have hall : ∀ (m seen : List Rk), err1 seen m = 0 → ∀ (j : Nat) (x : Rk), m[j]? = some x → idxOf (seen ++ m) x.name = some (seen.length + j) := by
    intro m
    induction m with
    | nil => intro seen _ j x hx; simp at hx
    | cons y m ih =>
      intro seen he j x hx
      unfold err1 at he
      split at he
      · rename_i h0
        cases j with
        | zero =>
          simp at hx
          subst hx
          have hno : idxOf seen y.name = none := by
            cases hi : idxOf seen y.name with
            | none => rfl
            | some q =>
              have : (idxM seen y.name).isSome = true := by unfold idxM; rw [hi]; rfl
              rw [this] at h0
              unfold rkErr at h0
              cases hn : nameB y.name <;> simp [hn] at h0
          have hy : idxOf (y :: m) y.name = some 0 := by unfold idxOf; rw [List.findIdx?_cons]; simp
          rw [idxOf_append, hno, hy]
          simp
        | succ j =>
          have := ih (seen ++ [y]) he j x (by simpa using hx)
          rw [List.append_assoc] at this
          rw [show y :: m = [y] ++ m from rfl, this, List.length_append]
          simp; omega
      · rename_i h0; exact absurd he h0
  have := hall l [] h i r hr
  simpa using this

/-- What lies below a thing lies below its bearer. -/
theorem below_up {l : List Rk} (h : openErr l = 0) {s t : ByteArray} (hu : upOf l s = some t) : ∀ x ∈ below_ l s, x ∈ below_ l t := by
  obtain ⟨h0, h1, h2, hn, h4, h5⟩ := open_zero h
  unfold upOf at hu
  cases hb : bearerOf l s with
  | none => rw [hb] at hu; cases hu
  | some i =>
    obtain ⟨r, hr, hs⟩ := bearer_get hb
    rw [hb] at hu
    simp only [Option.bind_some, hr, Option.map_some, Option.some.injEq] at hu
    subst hu
    have hidx := idx_name h2 hr
    have hp := below_pts h r.name
    obtain ⟨f, hf⟩ : ∃ f, l.length = f + 1 := ⟨l.length - 1, by omega⟩
    intro x hx
    have hps := below_pts h s
    rw [hf] at hp hps
    unfold pts at hp
    rw [hidx] at hp
    simp only [hr] at hp
    cases ha : pts l f r.left with
    | none => rw [ha] at hp; cases hp
    | some a =>
      cases hbb : pts l f r.right with
      | none => rw [ha, hbb] at hp; cases hp
      | some b =>
        rw [ha, hbb] at hp
        have e := Option.some.inj hp
        rw [← e]
        rcases hs with e2 | e2
        · rw [← e2, pts_mono _ _ _ ha] at hps
          rw [← e2, ← Option.some.inj hps] at hx
          exact List.mem_append_left _ hx
        · rw [← e2, pts_mono _ _ _ hbb] at hps
          rw [← e2, ← Option.some.inj hps] at hx
          exact List.mem_append_right _ hx

theorem below_top {l : List Rk} (h : openErr l = 0) : ∀ (f : Nat) (i : Nat) (r : Rk), l[i]? = some r → climbs l f r.name = false → ∀ x ∈ below_ l r.name, x ∈ below_ l (topName l)
  | f, i, r, hr, hc => by
    cases hb : bearerOf l r.name with
    | none =>
      have hT : hasB (borneAll l) r.name = false := by
        have := bearer_mem (l := l) (s := r.name)
        rw [hb] at this
        cases hh : hasB (borneAll l) r.name with
        | false => rfl
        | true => rw [hh] at this; cases this
      rw [top_name h hr hT]
      exact fun x hx => hx
    | some j =>
      obtain ⟨r', hr', hs⟩ := bearer_get hb
      have hu : upOf l r.name = some r'.name := by unfold upOf; rw [hb]; simp [hr']
      cases f with
      | zero => simp [climbs, hb] at hc
      | succ f =>
        have ih := below_top h f j r' hr' (by simpa [climbs, hb, hr'] using hc)
        exact fun x hx => ih x (below_up h hu x hx)

/-- The number of a point. -/
def posOf (ps : List ByteArray) (s : ByteArray) : Option Nat := ps.findIdx? fun x => decide (x = s)
theorem posOf_some {ps : List ByteArray} {s : ByteArray} {i : Nat} (h : posOf ps s = some i) : ps[i]? = some s ∧ ∀ j, j < i → ∀ x, ps[j]? = some x → x ≠ s := by
  unfold posOf at h
  obtain ⟨hi, hp, hn⟩ := List.findIdx?_eq_some_iff_getElem.1 h
  refine ⟨?_, fun j hj x hx e => ?_⟩
  · rw [List.getElem?_eq_getElem hi, of_decide_eq_true hp]
  · obtain ⟨g1, g2⟩ := List.getElem?_eq_some_iff.1 hx
    have := hn j hj
    rw [g2] at this
    exact absurd e (of_decide_eq_false (by simpa using this))
theorem posOf_mem {ps : List ByteArray} {s : ByteArray} (h : s ∈ ps) : ∃ i, posOf ps s = some i := by
  cases hp : posOf ps s with
  | some i => exact ⟨i, rfl⟩
  | none =>
    unfold posOf at hp
    have := List.findIdx?_eq_none_iff.1 hp s h
    simp at this
/-- What a point carries. -/
def loadOf (ps : List ByteArray) (xs : List Int) (s : ByteArray) : Int := match posOf ps s with | some i => xs.getD i 0 | none => 0
/-- What things carry together. -/
def sumF (g : ByteArray → Int) (qs : List ByteArray) : Int := qs.foldl (fun t s => t + g s) 0
theorem sumF_snoc (g : ByteArray → Int) (qs : List ByteArray) (s : ByteArray) : sumF g (qs ++ [s]) = sumF g qs + g s := by
  unfold sumF; rw [List.foldl_append]; rfl
theorem sumF_acc {g : ByteArray → Int} {b : Int} : ∀ (qs : List ByteArray) (t : Int), (∀ s ∈ qs, 0 ≤ g s ∧ g s ≤ b) → t ≤ qs.foldl (fun t s => t + g s) t ∧ qs.foldl (fun t s => t + g s) t ≤ t + b * qs.length
  | [], t, _ => by simp
  | s :: qs, t, h => by
    have h1 := sumF_acc qs (t + g s) fun x hx => h x (by simp [hx])
    have h2 := h s (by simp)
    have e : b * (((s :: qs).length : Nat) : Int) = b * qs.length + b := by simp [Int.mul_add]
    rw [List.foldl_cons, e]
    omega
theorem sumF_bound {g : ByteArray → Int} {b : Int} (qs : List ByteArray) (h : ∀ s ∈ qs, 0 ≤ g s ∧ g s ≤ b) : 0 ≤ sumF g qs ∧ sumF g qs ≤ b * qs.length := by
  have := sumF_acc qs 0 h
  unfold sumF
  omega
def underI (l : List Rk) (ps : List ByteArray) (xs : List Int) (s : ByteArray) : Int := sumF (loadOf ps xs) (below_ l s)
theorem loadOf_bound {ps : List ByteArray} {xs : List Int} {b : Int} (hb : 0 ≤ b) (h : ∀ z ∈ xs, 0 ≤ z ∧ z ≤ b) (s : ByteArray) : 0 ≤ loadOf ps xs s ∧ loadOf ps xs s ≤ b := by
  unfold loadOf
  cases posOf ps s with
  | none => simp; exact hb
  | some i =>
    simp only
    rw [List.getD]
    cases hx : xs[i]? with
    | none => simp; exact hb
    | some z => exact h z (List.mem_of_getElem? hx)
theorem below_len {l : List Rk} (h : openErr l = 0) (s : ByteArray) : (below_ l s).length ≤ 2 ^ l.length := (pts_len _ _ _ (below_pts h s)).2

end Go.Proofs.Ytfigbdhfmlhjdaa

end
