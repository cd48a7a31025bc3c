import Derived.Test.YtfigbdhfmlhjdaaQ9
import Derived.Test.YtfigbdhfmlhjdaaQ11
import Derived.Test.YtfigbdhfmlhjdaaQ12
import Derived.Test.YtfigbdhfmlhjdaaQ14

section
/- Contracts of the reference's shares. -/
namespace Go.Proofs.Ytfigbdhfmlhjdaa
open Go.RowKit

set_option maxHeartbeats 1000000 in
theorem place_is (xs : List ByteArray) (A : Option Addr) (n c N : Nat) (s : ByteArray) (i : Nat) (hi : xs[i]? = some s) (hf : ∀ j, j < i → ∀ x, xs[j]? = some x → x ≠ s) (w : World) (hx : Reads w N 1 A n (strs xs)) (hn : n ≤ 1000000) :
    Calls Try.prog 58 #[.slice A n c, .string s] w fun e w' => e = .returned (.int .i64 (i : Int)) ∧ w = w' := by
  have hxl := hx.len1
  have hin : i < n := by rw [← hxl]; exact (List.getElem?_eq_some_iff.1 hi).1
  have HX := Lib.hid hx
  have HI := Lib.hid hi
  have HFST := Lib.hid hf
  clear hx hi hf hxl
  go_enter Try.func58, Try.ntmps58
  go_wp2
  go_loop [5] (fun t => ∃ k : Nat, k ≤ i ∧ t = .int .i64 k) (fun t => n - (intOf t).toNat)
  case atStart => exact ⟨0, by omega, rfl⟩
  case round =>
    obtain ⟨k, hk, rfl⟩ := hrel
    obtain ⟨xb, xo, x, rfl, hxb, hr, c0⟩ := HX.out.str (i := k) (by omega)
    have HR := Lib.hid hr
    clear hr
    by_cases he : k = i
    · obtain rfl : x = s := Option.some.inj (HR.out.symm.trans (he ▸ HI.out))
      have hq := str_eq (rfl : x = x)
      have hkn : (k : Int) < (n : Int) := by omega
      have HK := Lib.hid he
      clear he
      go_wp2
      go_ret
      exact ⟨ret_int (by rw [HK.out]), rfl⟩
    · have hq := str_ne (HFST.out k (by omega) x HR.out)
      have hkn : (k : Int) < (n : Int) := by omega
      go_wp2
      go_round
      case rel => exact ⟨k + 1, by omega, by go_num⟩
      case measure => simp [intOf]; omega

/-- What multiplication by a part of both arms yields: the product in lowest terms, or nothing and an error. -/
def mulR (nn dd a b : Int) : (Int × Int) × Int := if smallB (nn * a) (dd * b) = true then ((redN (nn * a) (dd * b), redD (nn * a) (dd * b)), 0) else ((0, 0), 8)

theorem mul_share (nn dd a b x y t : Int) (h : mulR nn dd a b = ((x, y), t)) (hn : 1 ≤ nn ∧ nn ≤ 1000000000) (hd : 1 ≤ dd ∧ dd ≤ 1000000000) (ha : 1 ≤ a ∧ a ≤ 10000) (hb : 1 ≤ b ∧ b ≤ 20000) (w : World) :
    Calls Try.prog 60 #[.agg #[.int .i64 nn, .int .i64 dd], .agg #[.int .i64 (redN a b), .int .i64 (redD a b)]] w fun e w' => e = .returned (.tuple #[.agg #[.int .i64 x, .int .i64 y], .int .i64 t]) ∧ Below w.heap.size w w' := by
  obtain ⟨s1, s2, s3⟩ := of_scale (f1 := nn) (f2 := dd) (d := a) (v := b) hb.1 (nn, dd) rfl
  have hp : 0 < Int.gcd a b := Int.gcd_pos_of_ne_zero_right a (by omega)
  have g1 : 1 ≤ redN a b ∧ redN a b ≤ 10000 := by
    have := Int.ediv_pos_of_pos_of_dvd (a := a) (b := (Int.gcd a b : Int)) (by omega) (by omega) (Int.gcd_dvd_left a b)
    have h2 : a / (Int.gcd a b : Int) ≤ a := Int.ediv_le_self _ (by omega)
    unfold redN; omega
  have g2 : 1 ≤ redD a b ∧ redD a b ≤ 20000 := by
    have := Int.ediv_pos_of_pos_of_dvd (a := b) (b := (Int.gcd a b : Int)) (by omega) (by omega) (Int.gcd_dvd_right a b)
    have h2 : b / (Int.gcd a b : Int) ≤ b := Int.ediv_le_self _ (by omega)
    unfold redD; omega
  have b1 : 1 ≤ nn * redN a b := Int.mul_pos (show (0 : Int) < nn by omega) (show (0 : Int) < redN a b by omega)
  have b2 : nn * redN a b ≤ 1000000000 * 10000 := Int.mul_le_mul hn.2 g1.2 (by omega) (by omega)
  have b3 : 1 ≤ dd * redD a b := Int.mul_pos (show (0 : Int) < dd by omega) (show (0 : Int) < redD a b by omega)
  have b4 : dd * redD a b ≤ 1000000000 * 20000 := Int.mul_le_mul hd.2 g2.2 (by omega) (by omega)
  unfold mulR at h
  cases hs : smallB (nn * a) (dd * b) with
  | true =>
    rw [hs, if_pos rfl] at h
    injection h with h1 h3
    injection h1 with h1 h2
    subst h1 h2 h3
    have := mulref_ok nn dd (redN a b) (redD a b) (s1.trans hs) w (by omega) (by omega) b3 (by omega)
    rw [s2, s3] at this
    exact this
  | false =>
    rw [hs, if_neg (by simp)] at h
    injection h with h1 h3
    injection h1 with h1 h2
    subst h1 h2 h3
    have := mulref_no nn dd (redN a b) (redD a b) (s1.trans hs) w (by omega) (by omega) b3 (by omega)
    exact this

/-- What a walk below a thing leaves: the list of shares is changed in the places of its points. -/
def RShPost (m ob : Nat) (o1 o2 : List (Int × Int)) (res : Option (List (Int × Int))) (w : World) (e : Ending) (w' : World) : Prop :=
  w.grownBy w' (some ob) ∧ e = .returned (.bool res.isSome) ∧ ∃ zs, zs.length = m ∧ Blk w' ob 35 (cells2 zs).toArray ∧ ∀ ys, res = some ys → zs = o1 ++ ys ++ o2

theorem grown_by_trans {a w w' : World} {row : Option Nat} (h : a.grownBy w row) (k : w.grownBy w' row) : a.grownBy w' row :=
  ⟨k.os.trans h.os, k.tape.trans h.tape, k.output.trans h.output, Nat.le_trans h.size k.size, fun i hi hne => (k.block i (Nat.lt_of_lt_of_le hi h.size) hne).trans (h.block i hi hne)⟩

/-- The same of the world alone. -/
def RShW (m ob : Nat) (o1 o2 : List (Int × Int)) (res : Option (List (Int × Int))) (w w' : World) : Prop :=
  w.grownBy w' (some ob) ∧ ∃ zs, zs.length = m ∧ Blk w' ob 35 (cells2 zs).toArray ∧ ∀ ys, res = some ys → zs = o1 ++ ys ++ o2

set_option maxRecDepth 100000 in
set_option maxHeartbeats 1000000 in
theorem rshare_leaf (l : List Rk) (A : Option Addr) (n c N : Nat) (P : Option Addr) (m cp ob : Nat) (points : List ByteArray) (hn : n ≤ 100000) (hm : m ≤ 1000000) (name : ByteArray) (nn dd : Int) (p1 p2 : List ByteArray) (o1 om o2 : List (Int × Int)) (w : World)
    (hi : idxOf l name = none) (hpts : points = p1 ++ [name] ++ p2) (hnd : points.Nodup) (hx : Reads w N 5 A n (rkCells l)) (hp : Reads w ob 1 P m (strs points)) (hz : Blk w ob 35 (cells2 (o1 ++ om ++ o2)).toArray)
    (hN : N ≤ ob) (h1 : o1.length = p1.length) (h2 : om.length = 1) (h3 : (o1 ++ om ++ o2).length = m) :
    Calls Try.prog 38 #[.slice A n c, .string name, .agg #[.int .i64 nn, .int .i64 dd], .slice P m cp, .slice (some ⟨ob, 0, none⟩) m m] w (RShPost m ob o1 o2 (some [(nn, dd)]) w) := by
  have HF : Hid (findI l name = -1) := by show _ = _; unfold findI; rw [hi]
  have hxl := hp.len1
  have HI : Hid (points[o1.length]? = some name) := by
    show _ = _
    rw [hpts, List.append_assoc, List.getElem?_append_right (by omega), h1, Nat.sub_self]; rfl
  have HFST : Hid (∀ j, j < o1.length → ∀ x, points[j]? = some x → x ≠ name) := fun j hj x hx e => by
    obtain ⟨g1, g2⟩ := List.getElem?_eq_some_iff.1 hx
    obtain ⟨g3, g4⟩ := List.getElem?_eq_some_iff.1 HI.out
    have := (List.pairwise_iff_getElem.1 hnd) j o1.length g1 g3 hj
    rw [g2, g4] at this
    exact this e
  have hpm : o1.length < m := by rw [← h3]; simp; omega
  have HX := Lib.hid hx
  have HP := Lib.hid hp
  have HZ := Lib.hid hz
  have hob := hz.lt
  obtain ⟨i, hii⟩ : ∃ i, o1.length = i := ⟨_, rfl⟩
  have HII := Lib.hid hii
  rw [hii] at HI HFST hpm
  have hzi : (cells2 (o1 ++ om ++ o2)).length = m * 2 := by rw [cells2_length, h3]
  have C0 : Hid (w.cell? ⟨ob, i * 2, none⟩ = some ((cells2 (o1 ++ om ++ o2))[i * 2]'(by omega)) ∧ w.cell? ⟨ob, i * 2 + 1, none⟩ = some ((cells2 (o1 ++ om ++ o2))[i * 2 + 1]'(by omega))) := by
    refine ⟨?_, ?_⟩
    · rw [hz.cell]; simp
    · rw [hz.cell]; simp
  obtain ⟨u0, hu0⟩ : ∃ u, (cells2 (o1 ++ om ++ o2))[i * 2]'(by omega) = u := ⟨_, rfl⟩
  obtain ⟨u1, hu1⟩ : ∃ u, (cells2 (o1 ++ om ++ o2))[i * 2 + 1]'(by omega) = u := ⟨_, rfl⟩
  rw [hu0, hu1] at C0
  have hkm : (i : Int) < (m : Int) := by omega
  clear hx hp hz hi hpts hnd hu0 hu1 hzi hii hxl
  go_enter Try.func38, Try.ntmps38
  go_wp2_with (go_at_call 15; refine (find_is l _ n c N name (-1) HF.out _ (HX.out.alloc (by omega) _) (by omega)).mono ?_; rintro e w' ⟨rfl, rfl⟩)
  obtain ⟨W0, hW0⟩ : ∃ W0, W0 = (w.alloc (.cells #[.int .i64 nn, .int .i64 dd] 35)).drewN 1 := ⟨_, rfl⟩
  have b0 : Blk W0 w.heap.size 35 #[.int .i64 nn, .int .i64 dd] := by rw [hW0]; exact (Blk.new _ _ _).drewN 1
  have z0 : Blk W0 ob 35 (cells2 (o1 ++ om ++ o2)).toArray := by rw [hW0]; exact (HZ.out.alloc _).drewN 1
  have P0 := Lib.hid (show Reads W0 ob 1 P m (strs points) by rw [hW0]; exact (HP.out.alloc (by omega) _).drewN 1)
  have d0 : W0.cell? ⟨ob, i * 2, none⟩ = some u0 := by rw [hW0]; exact (World.cell?_alloc_lt w _ ⟨ob, i * 2, none⟩ hob).trans C0.out.1
  have d1 : W0.cell? ⟨ob, i * 2 + 1, none⟩ = some u1 := by rw [hW0]; exact (World.cell?_alloc_lt w _ ⟨ob, i * 2 + 1, none⟩ hob).trans C0.out.2
  have hgr : w.grownBy W0 (some ob) := by rw [hW0]; exact only_drewN (only_alloc (World.grownBy.refl w _) _) 1
  have HGR := Lib.hid hgr
  have Z0 := Lib.hid z0
  have B0 := Lib.hid b0
  clear hgr z0 b0
  refine Fx.region (fun f w' => (f 6 = false → w' = W0) ∧ (f 6 = true → w' = (W0.setCell ⟨ob, i * 2, none⟩ (.int .i64 nn)).setCell ⟨ob, i * 2 + 1, none⟩ (.int .i64 dd))) (by kernel_rfl) (by kernel_rfl) ?_ ?_
  · intro f hf0
    exact ⟨fun _ => hW0.symm, fun h => by rw [hf0 6] at h; cases h⟩
  have HW0 := Lib.hid hW0
  clear hW0
  repeat (first
    | (refine Fx.skip_ (by rfl) (fun f w h => h) ?_; simp only [Act.put, List.setIfInBounds_toArray, List.set_cons_zero, List.set_cons_succ])
    | (refine Fx.val_ ?_ (by rfl) ?_ (fun f w h => h) ?_
       rotate_left
       · intro f w' hD hk
         obtain ⟨jw, jr⟩ := id hD
         clear hk hD jw jr
         go_simp
         try rfl
       simp only [Act.put, List.setIfInBounds_toArray, List.set_cons_zero, List.set_cons_succ]))
  refine Fx.call_ (.int .i64 (i : Int)) ?_ ?_ (by rfl) ?_ ?_ ?_
  rotate_left 2
  · intro w'
    go_simp
    refine ⟨?_, ?_⟩ <;> rfl
  · intro f w' hD hk
    have jw := hD.1 (hk.2.1 6 (by kernel_rfl))
    exact (place_is points P m cp ob name i HI.out HFST.out _ (jw ▸ P0.out) hm).mono fun e w'' ⟨he, hw⟩ => ⟨he, hw ▸ hD⟩
  simp only [Act.put, List.setIfInBounds_toArray, List.set_cons_zero, List.set_cons_succ]
  refine Fx.val_ ?_ (by rfl) ?_ (fun f w h => h) ?_
  rotate_left
  · intro f w' hD hk
    obtain ⟨jw, jr⟩ := id hD
    have jw := jw (hk.2.1 6 (by kernel_rfl))
    have e0 : w'.cell? ⟨w.heap.size, 0, none⟩ = some (.int .i64 nn) := by rw [jw]; exact B0.out.cell 0
    have e1 : w'.cell? ⟨w.heap.size, 1, none⟩ = some (.int .i64 dd) := by rw [jw]; exact B0.out.cell 1
    clear hk hD jw jr
    go_simp
    try rfl
  simp only [Act.put, List.setIfInBounds_toArray, List.set_cons_zero, List.set_cons_succ]
  repeat (first
    | (refine Fx.skip_ (by rfl) (fun f w h => h) ?_; simp only [Act.put, List.setIfInBounds_toArray, List.set_cons_zero, List.set_cons_succ])
    | (refine Fx.val_ ?_ (by rfl) ?_ (fun f w h => h) ?_
       rotate_left
       · intro f w' hD hk
         obtain ⟨jw, jr⟩ := id hD
         clear hk hD jw jr
         go_simp
         try rfl
       simp only [Act.put, List.setIfInBounds_toArray, List.set_cons_zero, List.set_cons_succ]))
  refine Fx.store_ (fun w' => (w'.setCell ⟨ob, i * 2, none⟩ (.int .i64 nn)).setCell ⟨ob, i * 2 + 1, none⟩ (.int .i64 dd)) (by rfl) ?_ ?_ ?_
  · intro f w' hD hk
    obtain ⟨jw, jr⟩ := id hD
    have jw := jw hk.1
    have e0 : w'.cell? ⟨ob, i * 2, none⟩ = some u0 := by rw [jw]; exact d0
    have e1 : w'.cell? ⟨ob, i * 2 + 1, none⟩ = some u1 := by rw [jw]; exact d1
    have e2 : w'.frozen? ⟨ob, i * 2, none⟩ = false := by rw [jw]; exact Z0.out.frozen _
    have e3 : w'.frozen? ⟨ob, i * 2 + 1, none⟩ = false := by rw [jw]; exact Z0.out.frozen _
    clear hk hD jw jr
    go_simp
  · intro f w' hD hk
    obtain ⟨jw, jr⟩ := id hD
    have jw := jw hk.1
    exact ⟨fun h => by simp [Fx.add] at h, fun _ => by rw [jw]⟩
  simp only [Act.put, List.setIfInBounds_toArray, List.set_cons_zero, List.set_cons_succ]
  refine Fx.nil_ ?_
  intro f w1 hall hD
  have hf6 := hall 6 (by simp)
  obtain ⟨jw, jr⟩ := hD
  simp only [hf6, if_true] at *
  have jr := jr (by first | rfl | trivial)
  clear jw
  try clear hall
  subst jr
  go_wp2
  go_ret
  refine ⟨only_setCell (only_setCell HGR.out (.inl rfl) _) (.inl rfl) _, rfl, (o1 ++ om ++ o2).set i (nn, dd), by rw [List.length_set, h3], ?_, fun ys hys => ?_⟩
  · have := (Z0.out.set_ (i * 2) (.int .i64 nn)).set_ (i * 2 + 1) (.int .i64 dd)
    rw [← cells2_set]
    simpa using this
  · obtain rfl := Option.some.inj hys
    rw [← HII.out]
    exact set_mid o1 om o2 _ h2

theorem sh_succ (l : List Rk) (f : Nat) (s : ByteArray) (n d : Int) {i : Nat} {r : Rk} (hi : idxOf l s = some i) (hr : l[i]? = some r) {x1 y1 t1 x2 y2 t2 : Int}
    (h1 : mulR n d r.ar (r.al + r.ar) = ((x1, y1), t1)) (h2 : mulR n d r.al (r.al + r.ar) = ((x2, y2), t2)) :
    (t1 = 0 ∧ t2 = 0 → sh l (f + 1) s n d = join2 (sh l f r.left x1 y1) (sh l f r.right x2 y2)) ∧ (¬ (t1 = 0 ∧ t2 = 0) → sh l (f + 1) s n d = none) ∧ (t1 = 0 ∨ t1 = 8) ∧ (t2 = 0 ∨ t2 = 8) ∧
      (t1 = 0 → smallB (n * r.ar) (d * (r.al + r.ar)) = true ∧ x1 = redN (n * r.ar) (d * (r.al + r.ar)) ∧ y1 = redD (n * r.ar) (d * (r.al + r.ar))) ∧ (t2 = 0 → smallB (n * r.al) (d * (r.al + r.ar)) = true ∧ x2 = redN (n * r.al) (d * (r.al + r.ar)) ∧ y2 = redD (n * r.al) (d * (r.al + r.ar))) := by
  have e : sh l (f + 1) s n d = if smallB (n * r.ar) (d * (r.al + r.ar)) && smallB (n * r.al) (d * (r.al + r.ar)) then
          join2 (sh l f r.left (redN (n * r.ar) (d * (r.al + r.ar))) (redD (n * r.ar) (d * (r.al + r.ar)))) (sh l f r.right (redN (n * r.al) (d * (r.al + r.ar))) (redD (n * r.al) (d * (r.al + r.ar))))
        else none := by
    show (match idxOf l s with | none => _ | some i => _) = _
    rw [hi]
    simp only [hr]
  rw [e]
  unfold mulR at h1 h2
  cases s1 : smallB (n * r.ar) (d * (r.al + r.ar)) <;> cases s2 : smallB (n * r.al) (d * (r.al + r.ar)) <;> simp only [s1, s2, if_true, Bool.false_eq_true, if_false, Prod.mk.injEq] at h1 h2 <;> obtain ⟨⟨rfl, rfl⟩, rfl⟩ := h1 <;> obtain ⟨⟨rfl, rfl⟩, rfl⟩ := h2 <;> simp

theorem join2_some (a b : Option (List (Int × Int))) : (join2 a b).isSome = (a.isSome && b.isSome) := by
  cases a <;> cases b <;> rfl

theorem cut_mid {α : Type} (o1 x y o2 : List α) : (o1 ++ x ++ (y ++ o2)).take (o1.length + x.length) = o1 ++ x ∧ (o1 ++ x ++ (y ++ o2)).drop (o1.length + x.length + y.length) = o2 := by
  rw [← List.length_append]
  refine ⟨List.take_left, ?_⟩
  rw [← List.append_assoc, ← List.length_append]
  exact List.drop_left

set_option maxRecDepth 100000 in
set_option maxHeartbeats 4000000 in
theorem rshare_any (l : List Rk) (hfits : ∀ r ∈ l, r.Fits) (harms : ArmsOK l) (A : Option Addr) (n c N : Nat) (P : Option Addr) (m cp ob : Nat) (points : List ByteArray) (hn : n ≤ 100000) (hm : m ≤ 1000000) (hN : N ≤ ob) (hnd : points.Nodup) :
    ∀ (f : Nat) (name : ByteArray) (ps : List ByteArray) (nn dd : Int) (p1 p2 : List ByteArray) (o1 om o2 : List (Int × Int)) (w : World), pts l f name = some ps → Part nn → Part dd → points = p1 ++ ps ++ p2 →
      Reads w N 5 A n (rkCells l) → Reads w ob 1 P m (strs points) → Blk w ob 35 (cells2 (o1 ++ om ++ o2)).toArray → o1.length = p1.length → om.length = ps.length → (o1 ++ om ++ o2).length = m →
      Calls Try.prog 38 #[.slice A n c, .string name, .agg #[.int .i64 nn, .int .i64 dd], .slice P m cp, .slice (some ⟨ob, 0, none⟩) m m] w (RShPost m ob o1 o2 (sh l f name nn dd) w) := by
  intro f
  induction f with
  | zero =>
    intro name ps nn dd p1 p2 o1 om o2 w hp hnn hdd hpts hx hP hz h1 h2 h3
    unfold pts at hp
    cases hi : idxOf l name with
    | some i => rw [hi] at hp; cases hp
    | none =>
      rw [hi] at hp
      obtain rfl := Option.some.inj hp
      unfold sh
      exact rshare_leaf l A n c N P m cp ob points hn hm name nn dd p1 p2 o1 om o2 w hi hpts hnd hx hP hz hN h1 (by simpa using h2) h3
  | succ fu ih =>
    intro name ps nn dd p1 p2 o1 om o2 w hp hnn hdd hpts hx hP hz h1 h2 h3
    cases hi : idxOf l name with
    | none =>
      unfold pts at hp
      rw [hi] at hp
      obtain rfl := Option.some.inj hp
      unfold sh
      rw [hi]
      exact rshare_leaf l A n c N P m cp ob points hn hm name nn dd p1 p2 o1 om o2 w hi hpts hnd hx hP hz hN h1 (by simpa using h2) h3
    | some i =>
      unfold pts at hp
      rw [hi] at hp
      simp only at hp
      cases hr : l[i]? with
      | none => rw [hr] at hp; cases hp
      | some r =>
        rw [hr] at hp
        simp only at hp
        cases ha : pts l fu r.left with
        | none => rw [ha] at hp; cases hp
        | some pa =>
          cases hb : pts l fu r.right with
          | none => rw [ha, hb] at hp; cases hp
          | some pb =>
            rw [ha, hb] at hp
            obtain rfl := Option.some.inj hp
            have hin : i < n := by
              have := (List.getElem?_eq_some_iff.1 hr).1
              rw [hx.len5] at this; exact this
            obtain ⟨zb, zo, r', rfl, hzb, hr', -, c1, c2, c3, c4⟩ := hx.rk hin
            obtain rfl := Option.some.inj (hr'.symm.trans hr)
            obtain ⟨⟨⟨x1, y1⟩, t1⟩, hm1⟩ : ∃ M, mulR nn dd r'.ar (r'.al + r'.ar) = M := ⟨_, rfl⟩
            obtain ⟨⟨⟨x2, y2⟩, t2⟩, hm2⟩ : ∃ M, mulR nn dd r'.al (r'.al + r'.ar) = M := ⟨_, rfl⟩
            obtain ⟨q1, q2, q3, q4, q5, q6⟩ := sh_succ l fu name nn dd hi hr hm1 hm2
            obtain ⟨a1, a2, a3, a4⟩ := harms r' (List.mem_of_getElem? hr)
            obtain ⟨B, hB⟩ : ∃ B, r'.al + r'.ar = B := ⟨_, rfl⟩
            rw [hB] at hm1 hm2 q5 q6
            have hB1 : 1 ≤ B := by omega
            have hB2 : B ≤ 20000 := by omega
            have HF : Hid (findI l name = (i : Int)) := by show _ = _; unfold findI; rw [hi]
            have HX := Lib.hid hx
            have HP := Lib.hid hP
            have HZ := Lib.hid hz
            have HA := Lib.hid ha
            have HBb := Lib.hid hb
            have HM1 := Lib.hid hm1
            have HM2 := Lib.hid hm2
            have HB' := Lib.hid hB
            have IH := Lib.hid ih
            have Q1 := Lib.hid q1
            have Q2 := Lib.hid q2
            have Q5 := Lib.hid q5
            have Q6 := Lib.hid q6
            have HPTS := Lib.hid hpts
            have HL2 := Lib.hid h2
            have HL3 := Lib.hid h3
            have HQ3 := Lib.hid q3
            have HQ4 := Lib.hid q4
            have hob := hz.lt
            obtain ⟨n1, n2⟩ := hnn
            obtain ⟨d1, d2⟩ := hdd
            clear hx hP hz hp hi hr hr' ha hb hm1 hm2 hB ih q1 q2 q3 q4 q5 q6 hpts h2 h3
            go_enter Try.func38, Try.ntmps38
            go_wp2_with (go_at_call 15; refine (find_is l _ n c N name (i : Int) HF.out _ (HX.out.alloc (by omega) _) (by omega)).mono ?_; rintro e w' ⟨rfl, rfl⟩)
            have e1 : (w.alloc (.cells #[.int .i64 nn, .int .i64 dd] 35)).cell? ⟨zb, zo + i * 5 + 3, none⟩ = some (.int .i64 r'.al) := (World.cell?_alloc_lt w _ ⟨zb, _, none⟩ (by show zb < _; omega)).trans c3
            have e2 : (w.alloc (.cells #[.int .i64 nn, .int .i64 dd] 35)).cell? ⟨zb, zo + i * 5 + 4, none⟩ = some (.int .i64 r'.ar) := (World.cell?_alloc_lt w _ ⟨zb, _, none⟩ (by show zb < _; omega)).trans c4
            go_quiet (fail)
            rw [HB'.out]
            generalize hwa : (w.alloc (.cells #[.int .i64 nn, .int .i64 dd] 35)).drewN nq = wa
            have hga : w.grownBy wa (some ob) := by rw [← hwa]; exact only_drewN (only_alloc (World.grownBy.refl w _) _) nq
            have hba : Below w.heap.size w wa := by rw [← hwa]; exact below_drewN ((Below.refl _ _).alloc (Nat.le_refl _) _) nq
            have ka : Blk wa w.heap.size 35 #[.int .i64 nn, .int .i64 dd] := by rw [← hwa]; exact (Blk.new _ _ _).drewN nq
            have las : w.heap.size < wa.heap.size := ka.lt
            have HBA := Lib.hid hba
            have KA := Lib.hid ka
            clear hba ka hga hwa e1 e2
            have f3 : wa.cell? ⟨zb, zo + i * 5 + 3, none⟩ = some (.int .i64 r'.al) := (HBA.out.cell (p := ⟨zb, _, none⟩) (by show zb < _; omega)).trans c3
            have f4 : wa.cell? ⟨zb, zo + i * 5 + 4, none⟩ = some (.int .i64 r'.ar) := (HBA.out.cell (p := ⟨zb, _, none⟩) (by show zb < _; omega)).trans c4
            go_wp2
            refine Fx.regionG (MkD 35 (.int .i64 x1) (.int .i64 y1) 13) (fun x : Nat => .pointer (some ⟨x, 0, none⟩)) 12 (by kernel_rfl) (by kernel_rfl) (by kernel_rfl) ?_ ?_
            · intro f hf0
              exact MkD.start (below_drewN (Below.refl _ _) 1)
            repeat (first
              | (refine Fx.skipE_ (by rfl) (fun g f w h => h) ?_; simp only [Act.put, List.setIfInBounds_toArray, List.set_cons_zero, List.set_cons_succ])
              | (refine Fx.valE_ ?_ (by rfl) ?_ (fun g f w h => h) ?_
                 rotate_left
                 · intro g f w' hD hk
                   obtain ⟨hb, hg⟩ := id hD
                   have t0 := (hb.cell (p := ⟨zb, _, none⟩) (by show zb < _; omega)).trans f4
                   have t1 : w'.cell? ⟨w.heap.size, 0, none⟩ = some (.int .i64 nn) := (KA.out.below hb las).cell 0
                   have t2 : w'.cell? ⟨w.heap.size, 1, none⟩ = some (.int .i64 dd) := (KA.out.below hb las).cell 1
                   clear hk hD hb hg
                   go_simp
                   try rfl
                 simp only [Act.put, List.setIfInBounds_toArray, List.set_cons_zero, List.set_cons_succ]))
            refine Fx.callvE_ (.agg #[.int .i64 (redN r'.ar B), .int .i64 (redD r'.ar B)]) ?_ ?_ (by rfl) ?_ ?_ ?_
            rotate_left 2
            · intro w'
              go_simp
              refine ⟨?_, ?_⟩ <;> rfl
            · intro g f w' hD hk
              exact (lowest_red r'.ar B _ _ rfl rfl _ (by omega) (by omega) (by omega) (by omega)).mono fun e w'' ⟨he, hw⟩ => ⟨he, hD.step hw (by decide)⟩
            simp only [Act.put, List.setIfInBounds_toArray, List.set_cons_zero, List.set_cons_succ]
            repeat (first
              | (refine Fx.skipE_ (by rfl) (fun g f w h => h) ?_; simp only [Act.put, List.setIfInBounds_toArray, List.set_cons_zero, List.set_cons_succ])
              | (refine Fx.valE_ ?_ (by rfl) ?_ (fun g f w h => h) ?_
                 rotate_left
                 · intro g f w' hD hk
                   obtain ⟨hb, hg⟩ := id hD
                   have t0 := (hb.cell (p := ⟨zb, _, none⟩) (by show zb < _; omega)).trans f4
                   have t1 : w'.cell? ⟨w.heap.size, 0, none⟩ = some (.int .i64 nn) := (KA.out.below hb las).cell 0
                   have t2 : w'.cell? ⟨w.heap.size, 1, none⟩ = some (.int .i64 dd) := (KA.out.below hb las).cell 1
                   clear hk hD hb hg
                   go_simp
                   try rfl
                 simp only [Act.put, List.setIfInBounds_toArray, List.set_cons_zero, List.set_cons_succ]))
            refine Fx.callvE_ (.tuple #[.agg #[.int .i64 x1, .int .i64 y1], .int .i64 t1]) ?_ ?_ (by rfl) ?_ ?_ ?_
            rotate_left 2
            · intro w'
              go_simp
              refine ⟨?_, ?_⟩ <;> rfl
            · intro g f w' hD hk
              exact (mul_share nn dd r'.ar B x1 y1 t1 HM1.out ⟨n1, n2⟩ ⟨d1, d2⟩ ⟨a3, a4⟩ ⟨hB1, hB2⟩ _).mono fun e w'' ⟨he, hw⟩ => ⟨he, hD.step hw (by decide)⟩
            simp only [Act.put, List.setIfInBounds_toArray, List.set_cons_zero, List.set_cons_succ]
            repeat (first
              | (refine Fx.skipE_ (by rfl) (fun g f w h => h) ?_; simp only [Act.put, List.setIfInBounds_toArray, List.set_cons_zero, List.set_cons_succ])
              | (refine Fx.valE_ ?_ (by rfl) ?_ (fun g f w h => h) ?_
                 rotate_left
                 · intro g f w' hD hk
                   obtain ⟨hb, hg⟩ := id hD
                   have t0 := (hb.cell (p := ⟨zb, _, none⟩) (by show zb < _; omega)).trans f4
                   have t1 : w'.cell? ⟨w.heap.size, 0, none⟩ = some (.int .i64 nn) := (KA.out.below hb las).cell 0
                   have t2 : w'.cell? ⟨w.heap.size, 1, none⟩ = some (.int .i64 dd) := (KA.out.below hb las).cell 1
                   clear hk hD hb hg
                   go_simp
                   try rfl
                 simp only [Act.put, List.setIfInBounds_toArray, List.set_cons_zero, List.set_cons_succ]))
            refine Fx.makeE_ (by rfl) (by rfl) ?_ ?_
            · intro f w' hD hk
              refine ⟨w'.heap.size, w'.alloc (.cells #[.int .i64 0, .int .i64 0] 35), ?_, ?_⟩
              · clear hD hk
                go_simp
                try rfl
              · exact hD.make (hk.2.1 13 (by kernel_rfl)) (by decide)
            intro x
            simp only [Act.put, List.setIfInBounds_toArray, List.set_cons_zero, List.set_cons_succ]
            refine Fx.store_ (fun w' => (w'.setCell ⟨x, 0, none⟩ (.int .i64 x1)).setCell ⟨x, 1, none⟩ (.int .i64 y1)) (by rfl) ?_ ?_ ?_
            · intro f w' hD hk
              obtain ⟨hb, hg⟩ := id hD
              obtain ⟨e0, e1, r1, r2, r3, r4⟩ := MkD.cells hD
              clear hk hD
              go_simp
            · intro f w' hD hk
              obtain ⟨hb, hg⟩ := id hD
              obtain ⟨e0, e1, r1, r2, r3, r4⟩ := MkD.cells hD
              exact hD.store
            simp only [Act.put, List.setIfInBounds_toArray, List.set_cons_zero, List.set_cons_succ]
            repeat (first
              | (refine Fx.skip_ (by rfl) (fun f w h => h) ?_; simp only [Act.put, List.setIfInBounds_toArray, List.set_cons_zero, List.set_cons_succ])
              | (refine Fx.val_ ?_ (by rfl) ?_ (fun f w h => h) ?_
                 rotate_left
                 · intro f w' hD hk
                   obtain ⟨hb, hg⟩ := id hD
                   have t0 := (hb.cell (p := ⟨zb, _, none⟩) (by show zb < _; omega)).trans f4
                   have t1 : w'.cell? ⟨w.heap.size, 0, none⟩ = some (.int .i64 nn) := (KA.out.below hb las).cell 0
                   have t2 : w'.cell? ⟨w.heap.size, 1, none⟩ = some (.int .i64 dd) := (KA.out.below hb las).cell 1
                   clear hk hD hb hg
                   go_simp
                   try rfl
                 simp only [Act.put, List.setIfInBounds_toArray, List.set_cons_zero, List.set_cons_succ]))
            refine Fx.nil_ ?_
            intro f w1 hall hD
            have hf13 := hall 13 (by simp)
            obtain ⟨hb, hg⟩ := hD
            simp only [hf13, if_true] at *
            obtain ⟨hx1, e0, e1, hx2, hx3⟩ := hg x rfl
            obtain ⟨rfl, rfl⟩ := hx3 (by first | rfl | trivial | assumption)
            obtain ⟨wb, hnm⟩ : ∃ z : World, z = w1 := ⟨_, rfl⟩
            subst hnm
            obtain ⟨xa, hxa⟩ : ∃ z : Nat, z = x := ⟨_, rfl⟩
            subst hxa
            have hsb := hb.size
            have HBB := Lib.hid (HBA.out.trans (hb.mono (by omega)))
            have KAb := Lib.hid (KA.out.below hb las)
            have KX := Lib.hid hx2
            have lx : xa < wb.heap.size := hx2.lt
            have g3 : wb.cell? ⟨zb, zo + i * 5 + 3, none⟩ = some (.int .i64 r'.al) := (HBB.out.cell (p := ⟨zb, _, none⟩) (by show zb < _; omega)).trans c3
            clear hb hg hx2 hx3 f3 f4
            go_wp2
            refine Fx.regionG (MkD 35 (.int .i64 x2) (.int .i64 y2) 13) (fun x : Nat => .pointer (some ⟨x, 0, none⟩)) 12 (by kernel_rfl) (by kernel_rfl) (by kernel_rfl) ?_ ?_
            · intro f hf0
              exact MkD.start (below_drewN (Below.refl _ _) 1)
            repeat (first
              | (refine Fx.skipE_ (by rfl) (fun g f w h => h) ?_; simp only [Act.put, List.setIfInBounds_toArray, List.set_cons_zero, List.set_cons_succ])
              | (refine Fx.valE_ ?_ (by rfl) ?_ (fun g f w h => h) ?_
                 rotate_left
                 · intro g f w' hD hk
                   obtain ⟨hb, hg⟩ := id hD
                   have t0 := (hb.cell (p := ⟨zb, _, none⟩) (by show zb < _; omega)).trans g3
                   have t1 : w'.cell? ⟨w.heap.size, 0, none⟩ = some (.int .i64 nn) := (KAb.out.below hb (by omega)).cell 0
                   have t2 : w'.cell? ⟨w.heap.size, 1, none⟩ = some (.int .i64 dd) := (KAb.out.below hb (by omega)).cell 1
                   clear hk hD hb hg
                   go_simp
                   try rfl
                 simp only [Act.put, List.setIfInBounds_toArray, List.set_cons_zero, List.set_cons_succ]))
            refine Fx.callvE_ (.agg #[.int .i64 (redN r'.al B), .int .i64 (redD r'.al B)]) ?_ ?_ (by rfl) ?_ ?_ ?_
            rotate_left 2
            · intro w'
              go_simp
              refine ⟨?_, ?_⟩ <;> rfl
            · intro g f w' hD hk
              exact (lowest_red r'.al B _ _ rfl rfl _ (by omega) (by omega) (by omega) (by omega)).mono fun e w'' ⟨he, hw⟩ => ⟨he, hD.step hw (by decide)⟩
            simp only [Act.put, List.setIfInBounds_toArray, List.set_cons_zero, List.set_cons_succ]
            repeat (first
              | (refine Fx.skipE_ (by rfl) (fun g f w h => h) ?_; simp only [Act.put, List.setIfInBounds_toArray, List.set_cons_zero, List.set_cons_succ])
              | (refine Fx.valE_ ?_ (by rfl) ?_ (fun g f w h => h) ?_
                 rotate_left
                 · intro g f w' hD hk
                   obtain ⟨hb, hg⟩ := id hD
                   have t0 := (hb.cell (p := ⟨zb, _, none⟩) (by show zb < _; omega)).trans g3
                   have t1 : w'.cell? ⟨w.heap.size, 0, none⟩ = some (.int .i64 nn) := (KAb.out.below hb (by omega)).cell 0
                   have t2 : w'.cell? ⟨w.heap.size, 1, none⟩ = some (.int .i64 dd) := (KAb.out.below hb (by omega)).cell 1
                   clear hk hD hb hg
                   go_simp
                   try rfl
                 simp only [Act.put, List.setIfInBounds_toArray, List.set_cons_zero, List.set_cons_succ]))
            refine Fx.callvE_ (.tuple #[.agg #[.int .i64 x2, .int .i64 y2], .int .i64 t2]) ?_ ?_ (by rfl) ?_ ?_ ?_
            rotate_left 2
            · intro w'
              go_simp
              refine ⟨?_, ?_⟩ <;> rfl
            · intro g f w' hD hk
              exact (mul_share nn dd r'.al B x2 y2 t2 HM2.out ⟨n1, n2⟩ ⟨d1, d2⟩ ⟨a1, a2⟩ ⟨hB1, hB2⟩ _).mono fun e w'' ⟨he, hw⟩ => ⟨he, hD.step hw (by decide)⟩
            simp only [Act.put, List.setIfInBounds_toArray, List.set_cons_zero, List.set_cons_succ]
            repeat (first
              | (refine Fx.skipE_ (by rfl) (fun g f w h => h) ?_; simp only [Act.put, List.setIfInBounds_toArray, List.set_cons_zero, List.set_cons_succ])
              | (refine Fx.valE_ ?_ (by rfl) ?_ (fun g f w h => h) ?_
                 rotate_left
                 · intro g f w' hD hk
                   obtain ⟨hb, hg⟩ := id hD
                   have t0 := (hb.cell (p := ⟨zb, _, none⟩) (by show zb < _; omega)).trans g3
                   have t1 : w'.cell? ⟨w.heap.size, 0, none⟩ = some (.int .i64 nn) := (KAb.out.below hb (by omega)).cell 0
                   have t2 : w'.cell? ⟨w.heap.size, 1, none⟩ = some (.int .i64 dd) := (KAb.out.below hb (by omega)).cell 1
                   clear hk hD hb hg
                   go_simp
                   try rfl
                 simp only [Act.put, List.setIfInBounds_toArray, List.set_cons_zero, List.set_cons_succ]))
            refine Fx.makeE_ (by rfl) (by rfl) ?_ ?_
            · intro f w' hD hk
              refine ⟨w'.heap.size, w'.alloc (.cells #[.int .i64 0, .int .i64 0] 35), ?_, ?_⟩
              · clear hD hk
                go_simp
                try rfl
              · exact hD.make (hk.2.1 13 (by kernel_rfl)) (by decide)
            intro x
            simp only [Act.put, List.setIfInBounds_toArray, List.set_cons_zero, List.set_cons_succ]
            refine Fx.store_ (fun w' => (w'.setCell ⟨x, 0, none⟩ (.int .i64 x2)).setCell ⟨x, 1, none⟩ (.int .i64 y2)) (by rfl) ?_ ?_ ?_
            · intro f w' hD hk
              obtain ⟨hb, hg⟩ := id hD
              obtain ⟨e0, e1, r1, r2, r3, r4⟩ := MkD.cells hD
              clear hk hD
              go_simp
            · intro f w' hD hk
              obtain ⟨hb, hg⟩ := id hD
              obtain ⟨e0, e1, r1, r2, r3, r4⟩ := MkD.cells hD
              exact hD.store
            simp only [Act.put, List.setIfInBounds_toArray, List.set_cons_zero, List.set_cons_succ]
            repeat (first
              | (refine Fx.skip_ (by rfl) (fun f w h => h) ?_; simp only [Act.put, List.setIfInBounds_toArray, List.set_cons_zero, List.set_cons_succ])
              | (refine Fx.val_ ?_ (by rfl) ?_ (fun f w h => h) ?_
                 rotate_left
                 · intro f w' hD hk
                   obtain ⟨hb, hg⟩ := id hD
                   have t0 := (hb.cell (p := ⟨zb, _, none⟩) (by show zb < _; omega)).trans g3
                   have t1 : w'.cell? ⟨w.heap.size, 0, none⟩ = some (.int .i64 nn) := (KAb.out.below hb (by omega)).cell 0
                   have t2 : w'.cell? ⟨w.heap.size, 1, none⟩ = some (.int .i64 dd) := (KAb.out.below hb (by omega)).cell 1
                   clear hk hD hb hg
                   go_simp
                   try rfl
                 simp only [Act.put, List.setIfInBounds_toArray, List.set_cons_zero, List.set_cons_succ]))
            refine Fx.nil_ ?_
            intro f w1 hall hD
            have hf13 := hall 13 (by simp)
            obtain ⟨hb, hg⟩ := hD
            simp only [hf13, if_true] at *
            obtain ⟨hx1', e0, e1, hx2, hx3⟩ := hg x rfl
            obtain ⟨rfl, rfl⟩ := hx3 (by first | rfl | trivial | assumption)
            obtain ⟨wc, hnm⟩ : ∃ z : World, z = w1 := ⟨_, rfl⟩
            subst hnm
            have hsc := hb.size
            have HBC := Lib.hid (HBB.out.trans (hb.mono (by omega)))
            have KXa := Lib.hid (KX.out.below hb lx)
            have KY := Lib.hid hx2
            have ly : x < wc.heap.size := hx2.lt
            have g1 : wc.cell? ⟨zb, zo + i * 5 + 1, none⟩ = some (.string r'.left) := (HBC.out.cell (p := ⟨zb, _, none⟩) (by show zb < _; omega)).trans c1
            have g2 : wc.cell? ⟨zb, zo + i * 5 + 2, none⟩ = some (.string r'.right) := (HBC.out.cell (p := ⟨zb, _, none⟩) (by show zb < _; omega)).trans c2
            have hgc : w.grownBy wc (some ob) := only_of_below HBC.out _
            have HGC := Lib.hid hgc
            have ZC := Lib.hid (HZ.out.below HBC.out hob)
            have hfail : ¬ (t1 = 0 ∧ t2 = 0) → RShPost m ob o1 o2 (sh l (fu + 1) name nn dd) w (.returned (.bool false)) wc := fun hne => by
              rw [Q2.out hne]
              exact ⟨HGC.out, rfl, o1 ++ om ++ o2, HL3.out, ZC.out, fun ys hys => by cases hys⟩
            have HFAIL := Lib.hid hfail
            clear hb hg hx2 hx3 g3 hgc hfail c1 c2 c3 c4
            by_cases ht1 : t1 = 0
            rotate_left
            · have e1 : (t1 != 0) = true := by simpa using ht1
              have HP1 := Lib.hid (HFAIL.out fun h => ht1 h.1)
              have HT1 := Lib.hid ht1
              clear ht1
              go_wp2
              go_ret
              exact HP1.out
            by_cases ht2 : t2 = 0
            rotate_left
            · have e1 : (t2 != 0) = true := by simpa using ht2
              have HP1 := Lib.hid (HFAIL.out fun h => ht2 h.2)
              have HT2 := Lib.hid ht2
              subst ht1
              clear ht2
              go_wp2
              go_ret
              exact HP1.out
            subst ht1 ht2
            have hj := Q1.out ⟨rfl, rfl⟩
            obtain ⟨sm1, rx1, ry1⟩ := Q5.out rfl
            obtain ⟨sm2, rx2, ry2⟩ := Q6.out rfl
            have m1 : 1 ≤ nn * r'.ar := Int.mul_pos (show (0 : Int) < nn by omega) (show (0 : Int) < r'.ar by omega)
            have m2 : 1 ≤ nn * r'.al := Int.mul_pos (show (0 : Int) < nn by omega) (show (0 : Int) < r'.al by omega)
            have m3 : 1 ≤ dd * B := Int.mul_pos (show (0 : Int) < dd by omega) (show (0 : Int) < B by omega)
            have P1 := red_part m1 m3 sm1
            have P2 := red_part m2 m3 sm2
            rw [← rx1, ← ry1] at P1
            rw [← rx2, ← ry2] at P2
            have HP1 := Lib.hid P1
            have HP2 := Lib.hid P2
            have HJ := Lib.hid hj
            have HOM : Hid (o1 ++ om ++ o2 = o1 ++ om.take pa.length ++ (om.drop pa.length ++ o2)) := by
              show _ = _
              rw [← List.append_assoc, List.append_assoc o1 (om.take _), List.take_append_drop]
            have hol : (om.take pa.length).length = pa.length ∧ (om.drop pa.length).length = pb.length := by
              have := HL2.out
              rw [List.length_append] at this
              rw [List.length_take, List.length_drop]
              omega
            have HOL := Lib.hid hol
            clear hol m1 m2 m3 sm1 sm2 rx1 ry1 rx2 ry2 P1 P2 hj HFAIL Q1 Q2 Q5 Q6
            obtain ⟨bl, hbl⟩ : ∃ b, (sh l fu r'.left x1 y1).isSome = b := ⟨_, rfl⟩
            obtain ⟨W0, hW0⟩ : ∃ W0, W0 = wc.drewN 1 := ⟨_, rfl⟩
            have d1 : W0.cell? ⟨zb, zo + i * 5 + 1, none⟩ = some (.string r'.left) := by rw [hW0]; exact g1
            have d2 : W0.cell? ⟨xa, 0, none⟩ = some (.int .i64 x1) := by rw [hW0]; exact KXa.out.cell 0
            have d3 : W0.cell? ⟨xa, 1, none⟩ = some (.int .i64 y1) := by rw [hW0]; exact KXa.out.cell 1
            have hsW : W0.heap.size = wc.heap.size := by rw [hW0]; rfl
            have CALL : Hid (Calls Try.prog 38 #[.slice (some ⟨zb, zo, none⟩) n c, .string r'.left, .agg #[.int .i64 x1, .int .i64 y1], .slice P m cp, .slice (some ⟨ob, 0, none⟩) m m] W0 fun e w' => e = .returned (.bool bl) ∧ RShW m ob o1 (om.drop pa.length ++ o2) (sh l fu r'.left x1 y1) W0 w') := by
              rw [hW0]
              exact (IH.out r'.left pa x1 y1 p1 (pb ++ p2) o1 (om.take pa.length) (om.drop pa.length ++ o2) _ HA.out HP1.out.1 HP1.out.2 (by rw [HPTS.out]; simp) ((HX.out.belowLe HBC.out (by omega)).drewN 1) ((HP.out.belowLe HBC.out (by omega)).drewN 1) (by rw [← HOM.out]; exact ZC.out.drewN 1) h1 HOL.out.1 (by rw [← HOM.out]; exact HL3.out)).mono fun e w' ⟨g1, g2, g3⟩ => ⟨hbl ▸ g2, g1, g3⟩
            have HBL := Lib.hid hbl
            clear hbl
            go_wp2
            refine Fx.region (fun f w' => (f 9 = false → w' = W0) ∧ (f 9 = true → RShW m ob o1 (om.drop pa.length ++ o2) (sh l fu r'.left x1 y1) W0 w')) (by kernel_rfl) (by kernel_rfl) ?_ ?_
            · intro f hf0
              exact ⟨fun _ => hW0.symm, fun h => by rw [hf0 9] at h; cases h⟩
            have HW0 := Lib.hid hW0
            clear hW0
            repeat (first
              | (refine Fx.skip_ (by rfl) (fun f w h => h) ?_; simp only [Act.put, List.setIfInBounds_toArray, List.set_cons_zero, List.set_cons_succ])
              | (refine Fx.val_ ?_ (by rfl) ?_ (fun f w h => h) ?_
                 rotate_left
                 · intro f w' hD hk
                   obtain ⟨jw, jr⟩ := id hD
                   clear hk hD jw jr
                   go_simp
                   try rfl
                 simp only [Act.put, List.setIfInBounds_toArray, List.set_cons_zero, List.set_cons_succ]))
            refine Fx.val_ ?_ (by rfl) ?_ (fun f w h => h) ?_
            rotate_left
            · intro f w' hD hk
              obtain ⟨jw, jr⟩ := id hD
              have jw := jw (hk.2.1 9 (by kernel_rfl))
              have q0 : w'.cell? ⟨zb, zo + i * 5 + 1, none⟩ = some (.string r'.left) := by rw [jw]; exact d1
              clear hk hD jw jr
              go_simp
              try rfl
            simp only [Act.put, List.setIfInBounds_toArray, List.set_cons_zero, List.set_cons_succ]
            refine Fx.val_ ?_ (by rfl) ?_ (fun f w h => h) ?_
            rotate_left
            · intro f w' hD hk
              obtain ⟨jw, jr⟩ := id hD
              have jw := jw (hk.2.1 9 (by kernel_rfl))
              have q0 : w'.cell? ⟨xa, 0, none⟩ = some (.int .i64 x1) := by rw [jw]; exact d2
              have q1 : w'.cell? ⟨xa, 1, none⟩ = some (.int .i64 y1) := by rw [jw]; exact d3
              clear hk hD jw jr
              go_simp
              try rfl
            simp only [Act.put, List.setIfInBounds_toArray, List.set_cons_zero, List.set_cons_succ]
            repeat (first
              | (refine Fx.skip_ (by rfl) (fun f w h => h) ?_; simp only [Act.put, List.setIfInBounds_toArray, List.set_cons_zero, List.set_cons_succ])
              | (refine Fx.val_ ?_ (by rfl) ?_ (fun f w h => h) ?_
                 rotate_left
                 · intro f w' hD hk
                   obtain ⟨jw, jr⟩ := id hD
                   clear hk hD jw jr
                   go_simp
                   try rfl
                 simp only [Act.put, List.setIfInBounds_toArray, List.set_cons_zero, List.set_cons_succ]))
            refine Fx.call_ (.bool bl) ?_ ?_ (by rfl) ?_ ?_ ?_
            rotate_left 2
            · intro w'
              go_simp
              refine ⟨?_, ?_⟩ <;> rfl
            · intro f w' hD hk
              have jw := hD.1 hk.1
              rw [jw]
              exact (CALL.out).mono fun e w'' ⟨he, hz⟩ => ⟨he, fun h => by simp [Fx.add] at h, fun _ => hz⟩
            simp only [Act.put, List.setIfInBounds_toArray, List.set_cons_zero, List.set_cons_succ]
            repeat (first
              | (refine Fx.skip_ (by rfl) (fun f w h => h) ?_; simp only [Act.put, List.setIfInBounds_toArray, List.set_cons_zero, List.set_cons_succ])
              | (refine Fx.val_ ?_ (by rfl) ?_ (fun f w h => h) ?_
                 rotate_left
                 · intro f w' hD hk
                   obtain ⟨jw, jr⟩ := id hD
                   clear hk hD jw jr
                   go_simp
                   try rfl
                 simp only [Act.put, List.setIfInBounds_toArray, List.set_cons_zero, List.set_cons_succ]))
            refine Fx.nil_ ?_
            intro f w1 hall hD
            have hf9 := hall 9 (by simp)
            obtain ⟨jw, jr⟩ := hD
            simp only [hf9, if_true] at *
            have jr := jr (by first | rfl | trivial)
            clear jw
            try clear hall
            obtain ⟨wd, hnm⟩ : ∃ z : World, z = w1 := ⟨_, rfl⟩
            subst hnm
            obtain ⟨hgd, zs, hzl, hzb2, hzy⟩ := jr
            have HGD : Hid (w.grownBy wd (some ob)) := by
              have : w.grownBy W0 (some ob) := by rw [HW0.out]; exact only_drewN HGC.out 1
              exact grown_by_trans this hgd
            have hsd := hgd.size
            have hne : ∀ {g : Nat}, g ≠ ob → some g ≠ some ob := fun h e => h (Option.some.inj e)
            have KYd : Hid (Blk wd x 35 #[.int .i64 x2, .int .i64 y2]) := by
              have : Blk W0 x 35 #[.int .i64 x2, .int .i64 y2] := by rw [HW0.out]; exact KY.out.drewN 1
              exact this.grown hgd (hne (by omega))
            have hsw := HGD.out.size
            have kept : ∀ p : Addr, p.block < ob → wd.cell? p = w.cell? p := fun p hp => World.cell?_of_block (HGD.out.block p.block (by omega) (hne (by omega)))
            have g2' : wd.cell? ⟨zb, zo + i * 5 + 2, none⟩ = some (.string r'.right) := by
              rw [kept _ (by show zb < _; omega), ← (HBC.out.cell (p := ⟨zb, zo + i * 5 + 2, none⟩) (by show zb < _; omega))]; exact g2
            have HXd := Lib.hid (HX.out.keep (w' := wd) fun p hp => kept p (by omega))
            have HPd := Lib.hid (HP.out.keep (w' := wd) fun p hp => kept p hp)
            have HZL := Lib.hid hzl
            have HZD := Lib.hid hzb2
            have HZY := Lib.hid hzy
            clear hzl hzb2 hzy kept hgd g1 g2 d1 d2 d3 hne HBA KA HBB KAb KX KXa KY
            obtain ⟨br, hbr⟩ : ∃ b, (sh l fu r'.right x2 y2).isSome = b := ⟨_, rfl⟩
            have hPa := sh_length l fu r'.left x1 y1 pa
            have HPA := Lib.hid hPa
            clear hPa HW0 hsW hsd
            obtain ⟨W0, hW0⟩ : ∃ W0, W0 = wd.drewN 1 := ⟨_, rfl⟩
            have d1 : W0.cell? ⟨zb, zo + i * 5 + 2, none⟩ = some (.string r'.right) := by rw [hW0]; exact g2'
            have d2 : W0.cell? ⟨x, 0, none⟩ = some (.int .i64 x2) := by rw [hW0]; exact KYd.out.cell 0
            have d3 : W0.cell? ⟨x, 1, none⟩ = some (.int .i64 y2) := by rw [hW0]; exact KYd.out.cell 1
            have hcut := cut3 zs (o1.length + pa.length) pb.length
            have hlen3 : pa.length + pb.length = om.length := by have := HL2.out; rw [List.length_append] at this; omega
            have hlm : o1.length + om.length + o2.length = m := by have := HL3.out; simpa [Nat.add_assoc] using this
            have hzl' := HZL.out
            have CALL : Hid (Calls Try.prog 38 #[.slice (some ⟨zb, zo, none⟩) n c, .string r'.right, .agg #[.int .i64 x2, .int .i64 y2], .slice P m cp, .slice (some ⟨ob, 0, none⟩) m m] W0 fun e w' => e = .returned (.bool br) ∧ RShW m ob (zs.take (o1.length + pa.length)) (zs.drop (o1.length + pa.length + pb.length)) (sh l fu r'.right x2 y2) W0 w') := by
              rw [hW0]
              exact (IH.out r'.right pb x2 y2 (p1 ++ pa) p2 (zs.take (o1.length + pa.length)) ((zs.drop (o1.length + pa.length)).take pb.length) (zs.drop (o1.length + pa.length + pb.length)) _ HBb.out HP2.out.1 HP2.out.2 (by rw [HPTS.out]; simp) (HXd.out.drewN 1) (HPd.out.drewN 1) (by rw [← hcut]; exact HZD.out.drewN 1) (by rw [List.length_take, List.length_append, hzl', h1]; omega) (by rw [List.length_take, List.length_drop, hzl']; omega) (by rw [← hcut]; exact hzl')).mono fun e w' ⟨g1, g2, g3⟩ => ⟨hbr ▸ g2, g1, g3⟩
            have HBR := Lib.hid hbr
            have HCUT := Lib.hid hcut
            have HZLM := Lib.hid hzl'
            clear hbr hcut hzl'
            cases br
            · go_wp2
              refine Fx.region (fun f w' => (f 9 = false → w' = W0) ∧ (f 9 = true → RShW m ob (zs.take (o1.length + pa.length)) (zs.drop (o1.length + pa.length + pb.length)) (sh l fu r'.right x2 y2) W0 w')) (by kernel_rfl) (by kernel_rfl) ?_ ?_
              · intro f hf0
                exact ⟨fun _ => hW0.symm, fun h => by rw [hf0 9] at h; cases h⟩
              have HW0 := Lib.hid hW0
              clear hW0
              repeat (first
                | (refine Fx.skip_ (by rfl) (fun f w h => h) ?_; simp only [Act.put, List.setIfInBounds_toArray, List.set_cons_zero, List.set_cons_succ])
                | (refine Fx.val_ ?_ (by rfl) ?_ (fun f w h => h) ?_
                   rotate_left
                   · intro f w' hD hk
                     obtain ⟨jw, jr⟩ := id hD
                     clear hk hD jw jr
                     go_simp
                     try rfl
                   simp only [Act.put, List.setIfInBounds_toArray, List.set_cons_zero, List.set_cons_succ]))
              refine Fx.val_ ?_ (by rfl) ?_ (fun f w h => h) ?_
              rotate_left
              · intro f w' hD hk
                obtain ⟨jw, jr⟩ := id hD
                have jw := jw (hk.2.1 9 (by kernel_rfl))
                have q0 : w'.cell? ⟨zb, zo + i * 5 + 2, none⟩ = some (.string r'.right) := by rw [jw]; exact d1
                clear hk hD jw jr
                go_simp
                try rfl
              simp only [Act.put, List.setIfInBounds_toArray, List.set_cons_zero, List.set_cons_succ]
              refine Fx.val_ ?_ (by rfl) ?_ (fun f w h => h) ?_
              rotate_left
              · intro f w' hD hk
                obtain ⟨jw, jr⟩ := id hD
                have jw := jw (hk.2.1 9 (by kernel_rfl))
                have q0 : w'.cell? ⟨x, 0, none⟩ = some (.int .i64 x2) := by rw [jw]; exact d2
                have q1 : w'.cell? ⟨x, 1, none⟩ = some (.int .i64 y2) := by rw [jw]; exact d3
                clear hk hD jw jr
                go_simp
                try rfl
              simp only [Act.put, List.setIfInBounds_toArray, List.set_cons_zero, List.set_cons_succ]
              repeat (first
                | (refine Fx.skip_ (by rfl) (fun f w h => h) ?_; simp only [Act.put, List.setIfInBounds_toArray, List.set_cons_zero, List.set_cons_succ])
                | (refine Fx.val_ ?_ (by rfl) ?_ (fun f w h => h) ?_
                   rotate_left
                   · intro f w' hD hk
                     obtain ⟨jw, jr⟩ := id hD
                     clear hk hD jw jr
                     go_simp
                     try rfl
                   simp only [Act.put, List.setIfInBounds_toArray, List.set_cons_zero, List.set_cons_succ]))
              refine Fx.call_ (.bool false) ?_ ?_ (by rfl) ?_ ?_ ?_
              rotate_left 2
              · intro w'
                go_simp
                refine ⟨?_, ?_⟩ <;> rfl
              · intro f w' hD hk
                have jw := hD.1 hk.1
                rw [jw]
                exact (CALL.out).mono fun e w'' ⟨he, hz⟩ => ⟨he, fun h => by simp [Fx.add] at h, fun _ => hz⟩
              simp only [Act.put, List.setIfInBounds_toArray, List.set_cons_zero, List.set_cons_succ]
              repeat (first
                | (refine Fx.skip_ (by rfl) (fun f w h => h) ?_; simp only [Act.put, List.setIfInBounds_toArray, List.set_cons_zero, List.set_cons_succ])
                | (refine Fx.val_ ?_ (by rfl) ?_ (fun f w h => h) ?_
                   rotate_left
                   · intro f w' hD hk
                     obtain ⟨jw, jr⟩ := id hD
                     clear hk hD jw jr
                     go_simp
                     try rfl
                   simp only [Act.put, List.setIfInBounds_toArray, List.set_cons_zero, List.set_cons_succ]))
              refine Fx.nil_ ?_
              intro f w1 hall hD
              have hf9 := hall 9 (by simp)
              obtain ⟨jw, jr⟩ := hD
              simp only [hf9, if_true] at *
              have jr := jr (by first | rfl | trivial)
              clear jw
              try clear hall
              obtain ⟨hg2, zs2, hl2, hb2, hy2⟩ := jr
              have hgE : w.grownBy w1 (some ob) := by
                have : w.grownBy W0 (some ob) := by rw [HW0.out]; exact only_drewN HGD.out 1
                exact grown_by_trans this hg2
              have HGE := Lib.hid hgE
              have HB2 := Lib.hid hb2
              have HY2 := Lib.hid hy2
              have HLL2 := Lib.hid hl2
              clear hg2 hgE hb2 hy2 hl2 CALL IH
              go_wp2
              go_ret
              refine ⟨HGE.out, ?_, zs2, HLL2.out, HB2.out, fun ys hys => ?_⟩
              · rw [HJ.out, join2_some, HBL.out, HBR.out]
                cases bl <;> rfl
              · rw [HJ.out] at hys
                cases hL : sh l fu r'.left x1 y1 with
                | none => rw [hL] at hys; cases hys
                | some ysl =>
                  cases hR : sh l fu r'.right x2 y2 with
                  | none => rw [hL, hR] at hys; cases hys
                  | some ysr =>
                    rw [hL, hR] at hys
                    obtain rfl : ysl ++ ysr = ys := Option.some.inj hys
                    have hzs := HZY.out ysl hL
                    have hll := HPA.out ysl HA.out hL
                    obtain ⟨k1, k2⟩ := cut_mid o1 ysl (om.drop pa.length) o2
                    rw [← hzs] at k1 k2
                    rw [hll] at k1
                    rw [HOL.out.2, hll] at k2
                    have := HY2.out ysr hR
                    rw [this, k1, k2]
                    simp
            · go_wp2
              refine Fx.region (fun f w' => (f 9 = false → w' = W0) ∧ (f 9 = true → RShW m ob (zs.take (o1.length + pa.length)) (zs.drop (o1.length + pa.length + pb.length)) (sh l fu r'.right x2 y2) W0 w')) (by kernel_rfl) (by kernel_rfl) ?_ ?_
              · intro f hf0
                exact ⟨fun _ => hW0.symm, fun h => by rw [hf0 9] at h; cases h⟩
              have HW0 := Lib.hid hW0
              clear hW0
              repeat (first
                | (refine Fx.skip_ (by rfl) (fun f w h => h) ?_; simp only [Act.put, List.setIfInBounds_toArray, List.set_cons_zero, List.set_cons_succ])
                | (refine Fx.val_ ?_ (by rfl) ?_ (fun f w h => h) ?_
                   rotate_left
                   · intro f w' hD hk
                     obtain ⟨jw, jr⟩ := id hD
                     clear hk hD jw jr
                     go_simp
                     try rfl
                   simp only [Act.put, List.setIfInBounds_toArray, List.set_cons_zero, List.set_cons_succ]))
              refine Fx.val_ ?_ (by rfl) ?_ (fun f w h => h) ?_
              rotate_left
              · intro f w' hD hk
                obtain ⟨jw, jr⟩ := id hD
                have jw := jw (hk.2.1 9 (by kernel_rfl))
                have q0 : w'.cell? ⟨zb, zo + i * 5 + 2, none⟩ = some (.string r'.right) := by rw [jw]; exact d1
                clear hk hD jw jr
                go_simp
                try rfl
              simp only [Act.put, List.setIfInBounds_toArray, List.set_cons_zero, List.set_cons_succ]
              refine Fx.val_ ?_ (by rfl) ?_ (fun f w h => h) ?_
              rotate_left
              · intro f w' hD hk
                obtain ⟨jw, jr⟩ := id hD
                have jw := jw (hk.2.1 9 (by kernel_rfl))
                have q0 : w'.cell? ⟨x, 0, none⟩ = some (.int .i64 x2) := by rw [jw]; exact d2
                have q1 : w'.cell? ⟨x, 1, none⟩ = some (.int .i64 y2) := by rw [jw]; exact d3
                clear hk hD jw jr
                go_simp
                try rfl
              simp only [Act.put, List.setIfInBounds_toArray, List.set_cons_zero, List.set_cons_succ]
              repeat (first
                | (refine Fx.skip_ (by rfl) (fun f w h => h) ?_; simp only [Act.put, List.setIfInBounds_toArray, List.set_cons_zero, List.set_cons_succ])
                | (refine Fx.val_ ?_ (by rfl) ?_ (fun f w h => h) ?_
                   rotate_left
                   · intro f w' hD hk
                     obtain ⟨jw, jr⟩ := id hD
                     clear hk hD jw jr
                     go_simp
                     try rfl
                   simp only [Act.put, List.setIfInBounds_toArray, List.set_cons_zero, List.set_cons_succ]))
              refine Fx.call_ (.bool true) ?_ ?_ (by rfl) ?_ ?_ ?_
              rotate_left 2
              · intro w'
                go_simp
                refine ⟨?_, ?_⟩ <;> rfl
              · intro f w' hD hk
                have jw := hD.1 hk.1
                rw [jw]
                exact (CALL.out).mono fun e w'' ⟨he, hz⟩ => ⟨he, fun h => by simp [Fx.add] at h, fun _ => hz⟩
              simp only [Act.put, List.setIfInBounds_toArray, List.set_cons_zero, List.set_cons_succ]
              repeat (first
                | (refine Fx.skip_ (by rfl) (fun f w h => h) ?_; simp only [Act.put, List.setIfInBounds_toArray, List.set_cons_zero, List.set_cons_succ])
                | (refine Fx.val_ ?_ (by rfl) ?_ (fun f w h => h) ?_
                   rotate_left
                   · intro f w' hD hk
                     obtain ⟨jw, jr⟩ := id hD
                     clear hk hD jw jr
                     go_simp
                     try rfl
                   simp only [Act.put, List.setIfInBounds_toArray, List.set_cons_zero, List.set_cons_succ]))
              refine Fx.nil_ ?_
              intro f w1 hall hD
              have hf9 := hall 9 (by simp)
              obtain ⟨jw, jr⟩ := hD
              simp only [hf9, if_true] at *
              have jr := jr (by first | rfl | trivial)
              clear jw
              try clear hall
              obtain ⟨hg2, zs2, hl2, hb2, hy2⟩ := jr
              have hgE : w.grownBy w1 (some ob) := by
                have : w.grownBy W0 (some ob) := by rw [HW0.out]; exact only_drewN HGD.out 1
                exact grown_by_trans this hg2
              have HGE := Lib.hid hgE
              have HB2 := Lib.hid hb2
              have HY2 := Lib.hid hy2
              have HLL2 := Lib.hid hl2
              clear hg2 hgE hb2 hy2 hl2 CALL IH
              go_wp2
              go_ret
              refine ⟨HGE.out, ?_, zs2, HLL2.out, HB2.out, fun ys hys => ?_⟩
              · rw [HJ.out, join2_some, HBL.out, HBR.out]
                cases bl <;> rfl
              · rw [HJ.out] at hys
                cases hL : sh l fu r'.left x1 y1 with
                | none => rw [hL] at hys; cases hys
                | some ysl =>
                  cases hR : sh l fu r'.right x2 y2 with
                  | none => rw [hL, hR] at hys; cases hys
                  | some ysr =>
                    rw [hL, hR] at hys
                    obtain rfl : ysl ++ ysr = ys := Option.some.inj hys
                    have hzs := HZY.out ysl hL
                    have hll := HPA.out ysl HA.out hL
                    obtain ⟨k1, k2⟩ := cut_mid o1 ysl (om.drop pa.length) o2
                    rw [← hzs] at k1 k2
                    rw [hll] at k1
                    rw [HOL.out.2, hll] at k2
                    have := HY2.out ysr hR
                    rw [this, k1, k2]
                    simp

end Go.Proofs.Ytfigbdhfmlhjdaa

end
