/- Contracts of the reference's top, of the points below a name, of all points. -/
import Derived.Test.YtmioamcgbihhjaaRTree3
import Derived.Test.YtmioamcgbihhjaaMm
namespace Go.Proofs.Ytmioamcgbihhjaa
open Go.RowKit

theorem top_name {l : List Rk} (h : openErr l = 0) {k : Nat} {r : Rk} (hr : l[k]? = some r) (hb : hasB (borneAll l) r.name = false) : topName l = r.name := by
  obtain ⟨j, hj, hT, htop, hone⟩ := tops_one h
  have hk : k < l.length := (List.getElem?_eq_some_iff.1 hr).1
  have hkT : isTop l k = true := by rw [isTop_mem hr, hb]; rfl
  have e := hone k hk hkT
  subst e
  unfold topName
  rw [htop, hr]
  rfl

set_option maxRecDepth 100000 in
set_option maxHeartbeats 1000000 in
theorem rtop_any (l : List Rk) (hf : ∀ r ∈ l, r.Fits) (A : Option Addr) (n c N : Nat) (w : World) (hx : Reads w N 5 A n (rkCells l)) (hN : N ≤ w.heap.size) (hn : n ≤ 100000) (h0 : openErr l = 0) :
    Calls Try.prog 53 #[.slice A n c] w fun e w' => e = .returned (.string (topName l)) ∧ Below w.heap.size w w' := by
  have hxl := Lib.hid hx.len5
  have HX := Lib.hid hx
  have H0 := Lib.hid h0
  clear hx h0
  go_enter Try.func53, Try.ntmps53
  go_wp2_with fail
  refine (borne_any l A n c N _ HX.out hN hn).mono ?_
  rintro e w1 ⟨hb, A', c', rfl, hcc, hrr⟩
  have HB1 := Lib.hid (show Below w.heap.size w w1 from step_below hb (by repeat' (first | exact Below.refl _ _ | exact HB0.out | refine below_drewN ?_ _ | refine Below.drew ?_ | refine Below.alloc ?_ (by first | omega | (simp; done) | (simp; omega) | (simp [World.setCell]; omega)) _ | refine Below.setCell ?_ (by first | omega | (simp; done) | (simp; omega)) _ | assumption)))
  have hz1 := hb.size
  try simp only [World.size_alloc, World.drewN, World.drew] at hz1
  clear hb
  have HRR := Lib.hid hrr
  clear hrr
  obtain ⟨m, hm⟩ : ∃ m, 2 * n = m := ⟨_, rfl⟩
  rw [hm] at HRR hcc
  rw [hm]
  have hm2 : m ≤ 200000 := by omega
  have HM := Lib.hid hm
  clear hm
  have HX1 := Lib.hid (HX.out.belowLe HB1.out hN)
  go_wp2
  go_loop [4] (fun i => ∃ k : Nat, k ≤ n ∧ i = .int .i64 k ∧ ∀ j, j < k → ∀ r, l[j]? = some r → hasB (borneAll l) r.name = true) (fun i => n - (intOf i).toNat)
  case atStart => exact ⟨0, by omega, rfl, fun j hj => by omega⟩
  case round =>
    obtain ⟨k, hk, rfl, hno⟩ := hrel
    have HNO := Lib.hid hno
    clear hno
    by_cases hlt : k < n
    · obtain ⟨xb, xo, r, rfl, hxb, hr, c0, -, -, -, -⟩ := HX1.out.rk hlt
      have HR := Lib.hid hr
      clear hr
      go_wp2_with fail
      obtain ⟨t1, ht1⟩ : ∃ t, hasB (borneAll l) r.name = t := ⟨_, rfl⟩
      refine (hastext_is (borneAll l) _ m c' _ r.name t1 ht1 _ HRR.out (by omega)).mono ?_
      rintro e w' ⟨rfl, rfl⟩
      cases t1
      · have HT := Lib.hid (top_name H0.out HR.out ht1)
        clear ht1
        go_wp2
        go_ret
        exact ⟨by rw [HT.out]; rfl, HB1.out⟩
      · have HT := Lib.hid ht1
        clear ht1
        go_wp2
        go_round
        case rel =>
          refine ⟨k + 1, by omega, by go_num, fun j hj r' hr' => ?_⟩
          rcases Nat.lt_succ_iff_lt_or_eq.1 hj with hj | hj
          · exact HNO.out j hj r' hr'
          · subst hj
            obtain rfl := Option.some.inj (hr'.symm.trans HR.out)
            exact HT.out
        case measure => simp [intOf]; omega
    · exfalso
      obtain ⟨j, hj, hT, -, -⟩ := tops_one H0.out
      have hr := List.getElem?_eq_getElem hj
      rw [isTop_mem hr, HNO.out j (by rw [hxl.out] at hj; omega) _ hr] at hT
      cases hT

/-- What operation c yields is owned, until operation s (an append, a store) comes. -/
def OwnM (base : Nat) (e : TypeId) (size n : Nat) (xs : List Value) (c s : Nat) (g : Nat → Option Pick) (f : Nat → Bool) (w' : World) : Prop := ∀ x, g c = some x → f s = false → w'.ownsRow base e size (.slice x.1 n x.2) n xs
section
variable {base size n c s i k : Nat} {e : TypeId} {xs : List Value} {g : Nat → Option Pick} {f : Nat → Bool} {w' w'' : World} {x : Pick}
theorem OwnM.start : OwnM base e size n xs c s (fun _ => none) f w' := fun x h => by cases h
theorem OwnM.step (h : OwnM base e size n xs c s g f w') (hb : Below w'.heap.size w' w'') (hk : k ≠ s) : OwnM base e size n xs c s g (Fx.add f k) w'' := fun x hx hf => by
  rw [add_ne' hk] at hf
  exact own_below (h x hx hf) hb (Nat.le_refl _)
theorem OwnM.other (h : OwnM base e size n xs c s g f w') (hc : c ≠ i) : OwnM base e size n xs c s (Fx.upd g i x) f w' := fun y hy => h y (by rwa [upd_ne hc] at hy)
theorem OwnM.new (h : w'.ownsRow base e size (.slice x.1 n x.2) n xs) : OwnM base e size n xs c s (Fx.upd g c x) f w' := fun y hy _ => by rw [Fx.upd_same] at hy; cases hy; exact h
theorem OwnM.stored : OwnM base e size n xs c s g (Fx.add f s) w'' := fun x _ hf => by rw [add_same] at hf; cases hf
end

theorem one_strs (ps : List ByteArray) : ∀ u ∈ strs ps, u.oneCell' = true := by
  intro u hu
  obtain ⟨x, -, rfl⟩ := List.mem_map.1 hu
  rfl

def BelowPost (ps : List ByteArray) (w : World) (e : Ending) (w' : World) : Prop :=
  Below w.heap.size w w' ∧ ∃ A' c', e = .returned (.slice A' ps.length c') ∧ w'.ownsRow w.heap.size 9 1 (.slice A' ps.length c') ps.length (strs ps)

set_option maxHeartbeats 1000000 in
theorem rbelow_leaf (l : List Rk) (A : Option Addr) (n c N : Nat) (hn : n ≤ 100000) (name : ByteArray) (w : World) (hi : idxOf l name = none) (hx : Reads w N 5 A n (rkCells l)) :
    Calls Try.prog 96 #[.slice A n c, .string name] w (BelowPost [name] w) := by
  have HF : Hid (findI l name = -1) := by show _ = _; unfold findI; rw [hi]
  have HX := Lib.hid hx
  clear hx hi
  go_enter Try.func96, Try.ntmps96
  go_wp2_with (go_at_call 93; refine (find_is l _ n c N name (-1) HF.out _ HX.out (by omega)).mono ?_; rintro e w' ⟨rfl, rfl⟩)
  go_ret
  refine ⟨(Below.refl _ _).alloc (Nat.le_refl _) _, some ⟨w.heap.size, 0, none⟩, 1, rfl, rfl, .inr ⟨w.heap.size, 1, #[.string name], rfl, Nat.le_refl _, Blk.new _ _ _, by simp, by decide, by simp, by simp [strs]⟩⟩

set_option maxRecDepth 100000 in
set_option maxHeartbeats 2000000 in
theorem rbelow_any (l : List Rk) (hfits : ∀ r ∈ l, r.Fits) (A : Option Addr) (n c N : Nat) (hn : n ≤ 100000) :
    ∀ (f : Nat) (name : ByteArray) (ps : List ByteArray) (w : World), pts l f name = some ps → Reads w N 5 A n (rkCells l) → N ≤ w.heap.size → ps.length ≤ 1000000 →
      Calls Try.prog 96 #[.slice A n c, .string name] w (BelowPost ps w) := by
  intro f
  induction f with
  | zero =>
    intro name ps w hp hx hN hps
    unfold pts at hp
    cases hi : idxOf l name with
    | some i => rw [hi] at hp; cases hp
    | none =>
      rw [hi] at hp
      obtain rfl := Option.some.inj hp
      exact rbelow_leaf l A n c N hn name w hi hx
  | succ f ih =>
    intro name ps w hp hx hN hps
    cases hi : idxOf l name with
    | none =>
      unfold pts at hp
      rw [hi] at hp
      obtain rfl := Option.some.inj hp
      exact rbelow_leaf l A n c N hn name w hi hx
    | some i =>
      unfold pts at hp
      rw [hi] at hp
      simp only at hp
      cases hr : l[i]? with
      | none => rw [hr] at hp; cases hp
      | some r =>
        rw [hr] at hp
        simp only at hp
        cases ha : pts l f r.left with
        | none => rw [ha] at hp; cases hp
        | some pa =>
          cases hb : pts l f r.right with
          | none => rw [ha, hb] at hp; cases hp
          | some pb =>
            rw [ha, hb] at hp
            obtain rfl := Option.some.inj hp
            rw [List.length_append] at hps
            have hin : i < n := by
              have := (List.getElem?_eq_some_iff.1 hr).1
              rw [hx.len5] at this; exact this
            obtain ⟨zb, zo, r', rfl, hzb, hr', -, c1, c2, -, -⟩ := hx.rk hin
            obtain rfl := Option.some.inj (hr'.symm.trans hr)
            have HF : Hid (findI l name = (i : Int)) := by show _ = _; unfold findI; rw [hi]
            have HX := Lib.hid hx
            have HA := Lib.hid ha
            have HB := Lib.hid hb
            have IH := Lib.hid ih
            obtain ⟨i0, hi0, hz0, hz1, hz2⟩ := info_parts info_str2
            have HI0 := Lib.hid hi0
            have HZ0 := Lib.hid hz0
            have HZ1 := Lib.hid hz1
            have HZ2 := Lib.hid hz2
            clear hx hi hp hr hr' ha hb ih hi0 hz0 hz1 hz2
            go_enter Try.func96, Try.ntmps96
            go_wp2_with (go_at_call 93; refine (find_is l _ n c N name (i : Int) HF.out _ HX.out (by omega)).mono ?_; rintro e w' ⟨rfl, rfl⟩)
            refine Fx.regionM (fun W g f w' => Below W.heap.size W w' ∧ OwnM W.heap.size 9 1 pa.length (strs pa) 6 14 g f w' ∧ OwnM W.heap.size 9 1 pb.length (strs pb) 13 14 g f w' ∧ OwnM W.heap.size 9 1 (pa.length + pb.length) (strs (pa ++ pb)) 14 99 g f w') (fun i (x : Pick) => if i = 6 then .slice x.1 pa.length x.2 else if i = 13 then .slice x.1 pb.length x.2 else .slice x.1 (pa.length + pb.length) x.2) (by kernel_rfl) ?_ ?_
            · intro f hf0
              exact ⟨below_drewN (Below.refl _ _) 1, OwnM.start, OwnM.start, OwnM.start⟩
            first
            | (refine Fx.WM.skip 0 (by rfl) (by kernel_rfl) (by kernel_rfl) (by kernel_rfl) (by rfl) (fun g f w h => h) ?_; simp only [Act.put, List.setIfInBounds_toArray, List.set_cons_zero, List.set_cons_succ])
            | (refine Fx.WM.val_ 0 ?_ (by rfl) (by kernel_rfl) (by kernel_rfl) (by kernel_rfl) (by rfl) ?_ (fun g f w h => h) ?_
               rotate_left
               · intro g f w' hx hD hk
                 obtain ⟨hb, h1, h2, h3⟩ := id hD
                 have y0 := (hb.cell (p := ⟨zb, zo + i * 5 + 1, none⟩) (by show zb < _; omega)).trans c1
                 have y1 := (hb.cell (p := ⟨zb, zo + i * 5 + 2, none⟩) (by show zb < _; omega)).trans c2
                 clear hx hk hD hb h1 h2 h3
                 go_simp
                 try rfl
               simp only [Act.put, List.setIfInBounds_toArray, List.set_cons_zero, List.set_cons_succ])
            first
            | (refine Fx.WM.skip 1 (by rfl) (by kernel_rfl) (by kernel_rfl) (by kernel_rfl) (by rfl) (fun g f w h => h) ?_; simp only [Act.put, List.setIfInBounds_toArray, List.set_cons_zero, List.set_cons_succ])
            | (refine Fx.WM.val_ 1 ?_ (by rfl) (by kernel_rfl) (by kernel_rfl) (by kernel_rfl) (by rfl) ?_ (fun g f w h => h) ?_
               rotate_left
               · intro g f w' hx hD hk
                 obtain ⟨hb, h1, h2, h3⟩ := id hD
                 have y0 := (hb.cell (p := ⟨zb, zo + i * 5 + 1, none⟩) (by show zb < _; omega)).trans c1
                 have y1 := (hb.cell (p := ⟨zb, zo + i * 5 + 2, none⟩) (by show zb < _; omega)).trans c2
                 clear hx hk hD hb h1 h2 h3
                 go_simp
                 try rfl
               simp only [Act.put, List.setIfInBounds_toArray, List.set_cons_zero, List.set_cons_succ])
            first
            | (refine Fx.WM.skip 2 (by rfl) (by kernel_rfl) (by kernel_rfl) (by kernel_rfl) (by rfl) (fun g f w h => h) ?_; simp only [Act.put, List.setIfInBounds_toArray, List.set_cons_zero, List.set_cons_succ])
            | (refine Fx.WM.val_ 2 ?_ (by rfl) (by kernel_rfl) (by kernel_rfl) (by kernel_rfl) (by rfl) ?_ (fun g f w h => h) ?_
               rotate_left
               · intro g f w' hx hD hk
                 obtain ⟨hb, h1, h2, h3⟩ := id hD
                 have y0 := (hb.cell (p := ⟨zb, zo + i * 5 + 1, none⟩) (by show zb < _; omega)).trans c1
                 have y1 := (hb.cell (p := ⟨zb, zo + i * 5 + 2, none⟩) (by show zb < _; omega)).trans c2
                 clear hx hk hD hb h1 h2 h3
                 go_simp
                 try rfl
               simp only [Act.put, List.setIfInBounds_toArray, List.set_cons_zero, List.set_cons_succ])
            first
            | (refine Fx.WM.skip 3 (by rfl) (by kernel_rfl) (by kernel_rfl) (by kernel_rfl) (by rfl) (fun g f w h => h) ?_; simp only [Act.put, List.setIfInBounds_toArray, List.set_cons_zero, List.set_cons_succ])
            | (refine Fx.WM.val_ 3 ?_ (by rfl) (by kernel_rfl) (by kernel_rfl) (by kernel_rfl) (by rfl) ?_ (fun g f w h => h) ?_
               rotate_left
               · intro g f w' hx hD hk
                 obtain ⟨hb, h1, h2, h3⟩ := id hD
                 have y0 := (hb.cell (p := ⟨zb, zo + i * 5 + 1, none⟩) (by show zb < _; omega)).trans c1
                 have y1 := (hb.cell (p := ⟨zb, zo + i * 5 + 2, none⟩) (by show zb < _; omega)).trans c2
                 clear hx hk hD hb h1 h2 h3
                 go_simp
                 try rfl
               simp only [Act.put, List.setIfInBounds_toArray, List.set_cons_zero, List.set_cons_succ])
            first
            | (refine Fx.WM.skip 4 (by rfl) (by kernel_rfl) (by kernel_rfl) (by kernel_rfl) (by rfl) (fun g f w h => h) ?_; simp only [Act.put, List.setIfInBounds_toArray, List.set_cons_zero, List.set_cons_succ])
            | (refine Fx.WM.val_ 4 ?_ (by rfl) (by kernel_rfl) (by kernel_rfl) (by kernel_rfl) (by rfl) ?_ (fun g f w h => h) ?_
               rotate_left
               · intro g f w' hx hD hk
                 obtain ⟨hb, h1, h2, h3⟩ := id hD
                 have y0 := (hb.cell (p := ⟨zb, zo + i * 5 + 1, none⟩) (by show zb < _; omega)).trans c1
                 have y1 := (hb.cell (p := ⟨zb, zo + i * 5 + 2, none⟩) (by show zb < _; omega)).trans c2
                 clear hx hk hD hb h1 h2 h3
                 go_simp
                 try rfl
               simp only [Act.put, List.setIfInBounds_toArray, List.set_cons_zero, List.set_cons_succ])
            first
            | (refine Fx.WM.skip 5 (by rfl) (by kernel_rfl) (by kernel_rfl) (by kernel_rfl) (by rfl) (fun g f w h => h) ?_; simp only [Act.put, List.setIfInBounds_toArray, List.set_cons_zero, List.set_cons_succ])
            | (refine Fx.WM.val_ 5 ?_ (by rfl) (by kernel_rfl) (by kernel_rfl) (by kernel_rfl) (by rfl) ?_ (fun g f w h => h) ?_
               rotate_left
               · intro g f w' hx hD hk
                 obtain ⟨hb, h1, h2, h3⟩ := id hD
                 have y0 := (hb.cell (p := ⟨zb, zo + i * 5 + 1, none⟩) (by show zb < _; omega)).trans c1
                 have y1 := (hb.cell (p := ⟨zb, zo + i * 5 + 2, none⟩) (by show zb < _; omega)).trans c2
                 clear hx hk hD hb h1 h2 h3
                 go_simp
                 try rfl
               simp only [Act.put, List.setIfInBounds_toArray, List.set_cons_zero, List.set_cons_succ])
            first
            | (refine Fx.WM.skip 7 (by rfl) (by kernel_rfl) (by kernel_rfl) (by kernel_rfl) (by rfl) (fun g f w h => h) ?_; simp only [Act.put, List.setIfInBounds_toArray, List.set_cons_zero, List.set_cons_succ])
            | (refine Fx.WM.val_ 7 ?_ (by rfl) (by kernel_rfl) (by kernel_rfl) (by kernel_rfl) (by rfl) ?_ (fun g f w h => h) ?_
               rotate_left
               · intro g f w' hx hD hk
                 obtain ⟨hb, h1, h2, h3⟩ := id hD
                 have y0 := (hb.cell (p := ⟨zb, zo + i * 5 + 1, none⟩) (by show zb < _; omega)).trans c1
                 have y1 := (hb.cell (p := ⟨zb, zo + i * 5 + 2, none⟩) (by show zb < _; omega)).trans c2
                 clear hx hk hD hb h1 h2 h3
                 go_simp
                 try rfl
               simp only [Act.put, List.setIfInBounds_toArray, List.set_cons_zero, List.set_cons_succ])
            first
            | (refine Fx.WM.skip 8 (by rfl) (by kernel_rfl) (by kernel_rfl) (by kernel_rfl) (by rfl) (fun g f w h => h) ?_; simp only [Act.put, List.setIfInBounds_toArray, List.set_cons_zero, List.set_cons_succ])
            | (refine Fx.WM.val_ 8 ?_ (by rfl) (by kernel_rfl) (by kernel_rfl) (by kernel_rfl) (by rfl) ?_ (fun g f w h => h) ?_
               rotate_left
               · intro g f w' hx hD hk
                 obtain ⟨hb, h1, h2, h3⟩ := id hD
                 have y0 := (hb.cell (p := ⟨zb, zo + i * 5 + 1, none⟩) (by show zb < _; omega)).trans c1
                 have y1 := (hb.cell (p := ⟨zb, zo + i * 5 + 2, none⟩) (by show zb < _; omega)).trans c2
                 clear hx hk hD hb h1 h2 h3
                 go_simp
                 try rfl
               simp only [Act.put, List.setIfInBounds_toArray, List.set_cons_zero, List.set_cons_succ])
            first
            | (refine Fx.WM.skip 9 (by rfl) (by kernel_rfl) (by kernel_rfl) (by kernel_rfl) (by rfl) (fun g f w h => h) ?_; simp only [Act.put, List.setIfInBounds_toArray, List.set_cons_zero, List.set_cons_succ])
            | (refine Fx.WM.val_ 9 ?_ (by rfl) (by kernel_rfl) (by kernel_rfl) (by kernel_rfl) (by rfl) ?_ (fun g f w h => h) ?_
               rotate_left
               · intro g f w' hx hD hk
                 obtain ⟨hb, h1, h2, h3⟩ := id hD
                 have y0 := (hb.cell (p := ⟨zb, zo + i * 5 + 1, none⟩) (by show zb < _; omega)).trans c1
                 have y1 := (hb.cell (p := ⟨zb, zo + i * 5 + 2, none⟩) (by show zb < _; omega)).trans c2
                 clear hx hk hD hb h1 h2 h3
                 go_simp
                 try rfl
               simp only [Act.put, List.setIfInBounds_toArray, List.set_cons_zero, List.set_cons_succ])
            first
            | (refine Fx.WM.skip 10 (by rfl) (by kernel_rfl) (by kernel_rfl) (by kernel_rfl) (by rfl) (fun g f w h => h) ?_; simp only [Act.put, List.setIfInBounds_toArray, List.set_cons_zero, List.set_cons_succ])
            | (refine Fx.WM.val_ 10 ?_ (by rfl) (by kernel_rfl) (by kernel_rfl) (by kernel_rfl) (by rfl) ?_ (fun g f w h => h) ?_
               rotate_left
               · intro g f w' hx hD hk
                 obtain ⟨hb, h1, h2, h3⟩ := id hD
                 have y0 := (hb.cell (p := ⟨zb, zo + i * 5 + 1, none⟩) (by show zb < _; omega)).trans c1
                 have y1 := (hb.cell (p := ⟨zb, zo + i * 5 + 2, none⟩) (by show zb < _; omega)).trans c2
                 clear hx hk hD hb h1 h2 h3
                 go_simp
                 try rfl
               simp only [Act.put, List.setIfInBounds_toArray, List.set_cons_zero, List.set_cons_succ])
            first
            | (refine Fx.WM.skip 11 (by rfl) (by kernel_rfl) (by kernel_rfl) (by kernel_rfl) (by rfl) (fun g f w h => h) ?_; simp only [Act.put, List.setIfInBounds_toArray, List.set_cons_zero, List.set_cons_succ])
            | (refine Fx.WM.val_ 11 ?_ (by rfl) (by kernel_rfl) (by kernel_rfl) (by kernel_rfl) (by rfl) ?_ (fun g f w h => h) ?_
               rotate_left
               · intro g f w' hx hD hk
                 obtain ⟨hb, h1, h2, h3⟩ := id hD
                 have y0 := (hb.cell (p := ⟨zb, zo + i * 5 + 1, none⟩) (by show zb < _; omega)).trans c1
                 have y1 := (hb.cell (p := ⟨zb, zo + i * 5 + 2, none⟩) (by show zb < _; omega)).trans c2
                 clear hx hk hD hb h1 h2 h3
                 go_simp
                 try rfl
               simp only [Act.put, List.setIfInBounds_toArray, List.set_cons_zero, List.set_cons_succ])
            first
            | (refine Fx.WM.skip 12 (by rfl) (by kernel_rfl) (by kernel_rfl) (by kernel_rfl) (by rfl) (fun g f w h => h) ?_; simp only [Act.put, List.setIfInBounds_toArray, List.set_cons_zero, List.set_cons_succ])
            | (refine Fx.WM.val_ 12 ?_ (by rfl) (by kernel_rfl) (by kernel_rfl) (by kernel_rfl) (by rfl) ?_ (fun g f w h => h) ?_
               rotate_left
               · intro g f w' hx hD hk
                 obtain ⟨hb, h1, h2, h3⟩ := id hD
                 have y0 := (hb.cell (p := ⟨zb, zo + i * 5 + 1, none⟩) (by show zb < _; omega)).trans c1
                 have y1 := (hb.cell (p := ⟨zb, zo + i * 5 + 2, none⟩) (by show zb < _; omega)).trans c2
                 clear hx hk hD hb h1 h2 h3
                 go_simp
                 try rfl
               simp only [Act.put, List.setIfInBounds_toArray, List.set_cons_zero, List.set_cons_succ])
            refine Fx.WM.choose 6 (by rfl) (by kernel_rfl) (by rfl) ?_ ?_
            · skip
              refine Fx.Chooses.call ?_ ?_ (by rfl) ?_ ?_
              rotate_left 2
              · intro w'
                go_simp
                refine ⟨?_, ?_⟩ <;> rfl
              · intro f w' hD hk
                exact (IH.out r'.left pa w' HA.out (HX.out.belowLe hD.1 hN) (by have := hD.1.size; omega) (by omega)).mono fun e w'' ⟨hb, A', c', he, ho⟩ => ⟨(A', c'), he, step_below hb hD.1, OwnM.new (own_base hD.1.size ho), (hD.2.2.1.step hb (by decide)).other (by decide), (hD.2.2.2.step hb (by decide)).other (by decide)⟩
            intro x
            simp only [Act.put, List.setIfInBounds_toArray, List.set_cons_zero, List.set_cons_succ]
            refine Fx.WM.choose 13 (by rfl) (by kernel_rfl) (by rfl) ?_ ?_
            · skip
              refine Fx.Chooses.call ?_ ?_ (by rfl) ?_ ?_
              rotate_left 2
              · intro w'
                go_simp
                refine ⟨?_, ?_⟩ <;> rfl
              · intro f w' hD hk
                exact (IH.out r'.right pb w' HB.out (HX.out.belowLe hD.1 hN) (by have := hD.1.size; omega) (by omega)).mono fun e w'' ⟨hb, A', c', he, ho⟩ => ⟨(A', c'), he, step_below hb hD.1, (hD.2.1.step hb (by decide)).other (by decide), OwnM.new (own_base hD.1.size ho), (hD.2.2.2.step hb (by decide)).other (by decide)⟩
            intro y
            simp only [Act.put, List.setIfInBounds_toArray, List.set_cons_zero, List.set_cons_succ]
            refine Fx.WM.choose 14 (by rfl) (by kernel_rfl) (by rfl) ?_ ?_
            · refine Fx.Chooses.make (by rfl) ?_
              intro f w' hD hk
              obtain ⟨hb, h1, h2, h3⟩ := hD
              have o1 := h1 x rfl (hk.1)
              have o2 := h2 y rfl (hk.1)
              obtain ⟨A2, c2', e2, hr2⟩ := own_reads o2
              injection e2 with e2a e2b e2c
              subst e2a e2c
              obtain ⟨v', W2, hrun, o3, hg2, hrow⟩ := run_append_any (P := Try.prog) w' w.heap.size 87 87 9 i0 _ 1 16 Try.underlying87 HI0.out HZ0.out HZ1.out HZ2.out rfl (by omega) (.slice x.1 pa.length x.2) pa.length _ o1 w'.heap.size y.1 pb.length y.2 (strs pb) hr2 (one_strs pb) (by unfold maxLen; omega) (by omega) hb.size
              obtain ⟨A3, c3, rfl, -⟩ := own_reads o3
              refine ⟨(A3, c3), W2, ?_, hb.grown hg2 (by have := hb.size; omega) (fun g hg => (own_lt o1 hg).1), OwnM.stored, OwnM.stored, OwnM.new ?_⟩
              · exact exec_append (.tmp 19) (.tmp 26) _ rfl hrun
              · unfold strs at o3 ⊢
                rw [List.map_append]
                exact o3
            intro z
            simp only [Act.put, List.setIfInBounds_toArray, List.set_cons_zero, List.set_cons_succ]
            first
            | (refine Fx.WM.skip 15 (by rfl) (by kernel_rfl) (by kernel_rfl) (by kernel_rfl) (by rfl) (fun g f w h => h) ?_; simp only [Act.put, List.setIfInBounds_toArray, List.set_cons_zero, List.set_cons_succ])
            | (refine Fx.WM.val_ 15 ?_ (by rfl) (by kernel_rfl) (by kernel_rfl) (by kernel_rfl) (by rfl) ?_ (fun g f w h => h) ?_
               rotate_left
               · intro g f w' hx hD hk
                 obtain ⟨hb, h1, h2, h3⟩ := id hD
                 have y0 := (hb.cell (p := ⟨zb, zo + i * 5 + 1, none⟩) (by show zb < _; omega)).trans c1
                 have y1 := (hb.cell (p := ⟨zb, zo + i * 5 + 2, none⟩) (by show zb < _; omega)).trans c2
                 clear hx hk hD hb h1 h2 h3
                 go_simp
                 try rfl
               simp only [Act.put, List.setIfInBounds_toArray, List.set_cons_zero, List.set_cons_succ])
            refine Fx.WM.nil (by kernel_rfl) ?_
            intro wz hD
            have ho := hD.2.2.2 z rfl (by rfl)
            have hbz := hD.1
            clear hD
            go_wp2
            go_ret
            exact ⟨hbz, z.1, z.2, by rw [List.length_append]; rfl, by rw [List.length_append]; exact ho⟩

end Go.Proofs.Ytmioamcgbihhjaa
