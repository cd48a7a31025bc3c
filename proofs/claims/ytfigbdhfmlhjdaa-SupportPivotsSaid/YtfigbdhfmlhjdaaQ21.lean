import Derived.Test.YtfigbdhfmlhjdaaQ20
import Derived.Test.YtfigbdhfmlhjdaaQ14

section
/- The contract of place. -/
namespace Go.Proofs.Ytfigbdhfmlhjdaa
open Go Go.RowKit Go.Maps

theorem place_any (l : List Rk) (hfits : ∀ r ∈ l, r.Fits) (h0 : openErr l = 0) (g0 g1 : ByteArray → Int) (hg0 : ∀ s, -1000000 ≤ g0 s ∧ g0 s ≤ 1000000) (hg1 : ∀ s, -1000000 ≤ g1 s ∧ g1 s ≤ 1000000) (A : Option Addr) (n c tb mb : Nat) (top : Int) (n₀ gm gp : Nat) :
    ∀ (f : Nat) (s : ByteArray) (ps : List ByteArray), pts l f s = some ps → s.size ≤ maxLen → PlaceOk l g0 g1 A n c tb mb top n₀ gm gp s ps.length ps := by
  have known : ∀ (f : Nat) (s : ByteArray) (ps : List ByteArray), pts l f s = some ps → s.size ≤ maxLen → ∀ K cnt lg w, PivAt l g0 g1 A n c tb mb top n₀ gm gp K cnt lg w → Good l g0 g1 K lg → K s = true →
      Calls Try.prog 29 #[.pointer (some ⟨gp, 0, none⟩), .string s] w (PlacePost l g0 g1 A n c tb mb top n₀ gm gp s ps.length K cnt w) := fun f s ps hp hs K cnt lg w h hG hk =>
    (place_known l g0 g1 A n c tb mb top n₀ gm gp K cnt lg w h s hs hk).mono fun e w' ⟨he, hb⟩ =>
      ⟨he, K, cnt, lg, Two.of hb, h.below hb h.gp_lt, hG, fun _ h => h, hk, by have := (pts_len _ _ _ hp).1; omega⟩
  intro f
  induction f with
  | zero =>
    intro s ps hp hs K cnt lg w h hG hK hc
    have hi : idxOf l s = none := by
      unfold pts at hp
      cases hx : idxOf l s with
      | none => rfl
      | some i => rw [hx] at hp; cases hp
    have hp2 := hp
    rw [pts_leaf hi] at hp2
    obtain rfl := Option.some.inj hp2
    exact known 0 s [s] hp hs K cnt lg w h hG (hK s (by simp))
  | succ f ih =>
    intro s ps hp hs K cnt lg w h hG hK hc
    by_cases hks : K s = true
    · exact known (f + 1) s ps hp hs K cnt lg w h hG hks
    cases hi : idxOf l s with
    | none =>
      have hp2 := hp
      rw [pts_leaf hi] at hp2
      obtain rfl := Option.some.inj hp2
      exact absurd (hK s (by simp)) hks
    | some i =>
      clear known
      unfold pts at hp
      rw [hi] at hp
      simp only at hp
      cases hr : l[i]? with
      | none => rw [hr] at hp; cases hp
      | some r =>
        rw [hr] at hp
        simp only at hp
        cases ha : pts l f r.left with
        | none => rw [ha] at hp; cases hp
        | some pa =>
          cases hb : pts l f r.right with
          | none => rw [ha, hb] at hp; cases hp
          | some pb =>
            rw [ha, hb] at hp
            obtain rfl : pa ++ pb = ps := Option.some.inj hp
            have hfit := hfits r (List.mem_of_getElem? hr)
            rw [List.length_append] at hc ⊢
            exact place_step l hfits h0 g0 g1 hg0 hg1 A n c tb mb top n₀ gm gp s hs i r hi hr pa.length pb.length pa pb (ih r.left pa ha hfit.left) (ih r.right pb hb hfit.right) K cnt lg w h hG (fun x hx => hK x (List.mem_append_left _ hx)) (fun x hx => hK x (List.mem_append_right _ hx)) (by simpa using hks) hc
end Go.Proofs.Ytfigbdhfmlhjdaa

end

section
/- Pivots: points are leaves; the coordinates of points; an append of a place. -/
namespace Go.Proofs.Ytfigbdhfmlhjdaa
open Go Go.RowKit Go.Maps

theorem leaf_mem {l : List Rk} : ∀ (f : Nat) (s : ByteArray) (ps : List ByteArray), pts l f s = some ps → ∀ x ∈ ps, idxOf l x = none := by
  intro f
  induction f with
  | zero =>
    intro s ps h x hx
    unfold pts at h
    cases hi : idxOf l s with
    | none => rw [hi] at h; obtain rfl := Option.some.inj h; obtain rfl : x = s := (by simpa using hx); exact hi
    | some i => rw [hi] at h; cases h
  | succ f ih =>
    intro s ps h x hx
    unfold pts at h
    cases hi : idxOf l s with
    | none => rw [hi] at h; obtain rfl := Option.some.inj h; obtain rfl : x = s := (by simpa using hx); exact hi
    | some i =>
      rw [hi] at h
      simp only at h
      cases hr : l[i]? with
      | none => rw [hr] at h; cases h
      | some r =>
        rw [hr] at h
        simp only at h
        cases ha : pts l f r.left with
        | none => rw [ha] at h; cases h
        | some pa =>
          cases hb : pts l f r.right with
          | none => rw [ha, hb] at h; cases h
          | some pb =>
            rw [ha, hb] at h
            obtain rfl : pa ++ pb = ps := Option.some.inj h
            rcases List.mem_append.1 hx with hx | hx
            · exact ih _ _ ha x hx
            · exact ih _ _ hb x hx

/-- All coordinates are in range. -/
def atB (xs : List (Int × Int)) : Bool := xs.all fun p => withinB p.1 (-1000000) 1000000 && withinB p.2 (-1000000) 1000000
def atG0 (ps : List ByteArray) (xs : List (Int × Int)) (s : ByteArray) : Int := loadOf ps (xs.map (·.1)) s
def atG1 (ps : List ByteArray) (xs : List (Int × Int)) (s : ByteArray) : Int := loadOf ps (xs.map (·.2)) s
theorem loadOf_rng {ps : List ByteArray} {xs : List Int} {b : Int} (hb : 0 ≤ b) (h : ∀ z ∈ xs, -b ≤ z ∧ z ≤ b) (s : ByteArray) : -b ≤ loadOf ps xs s ∧ loadOf ps xs s ≤ b := by
  unfold loadOf
  cases posOf ps s with
  | none => exact ⟨by show -b ≤ 0; omega, hb⟩
  | some i =>
    show -b ≤ xs.getD i 0 ∧ xs.getD i 0 ≤ b
    rw [List.getD_eq_getElem?_getD]
    cases hx : xs[i]? with
    | none => exact ⟨by simp; omega, by simpa using hb⟩
    | some z => exact h z (List.mem_of_getElem? hx)
theorem atB_mem {xs : List (Int × Int)} (h : atB xs = true) {p : Int × Int} (hp : p ∈ xs) : (-1000000 ≤ p.1 ∧ p.1 ≤ 1000000) ∧ (-1000000 ≤ p.2 ∧ p.2 ≤ 1000000) := by
  unfold atB at h
  have := List.all_eq_true.1 h p hp
  rw [Bool.and_eq_true, withinB_iff, withinB_iff] at this
  exact this
theorem atG0_in {ps : List ByteArray} {xs : List (Int × Int)} (h : atB xs = true) (s : ByteArray) : -1000000 ≤ atG0 ps xs s ∧ atG0 ps xs s ≤ 1000000 :=
  loadOf_rng (by omega) (fun z hz => by obtain ⟨p, hp, rfl⟩ := List.mem_map.1 hz; exact (atB_mem h hp).1) s
theorem atG1_in {ps : List ByteArray} {xs : List (Int × Int)} (h : atB xs = true) (s : ByteArray) : -1000000 ≤ atG1 ps xs s ∧ atG1 ps xs s ≤ 1000000 :=
  loadOf_rng (by omega) (fun z hz => by obtain ⟨p, hp, rfl⟩ := List.mem_map.1 hz; exact (atB_mem h hp).2) s
theorem posOf_at {ps : List ByteArray} (hnd : ps.Nodup) {k : Nat} {s : ByteArray} (hs : ps[k]? = some s) : posOf ps s = some k := by
  obtain ⟨i, hi⟩ := posOf_mem (List.mem_of_getElem? hs)
  have h1 := (posOf_some hi).1
  have : i = k := (List.getElem?_inj (List.getElem?_eq_some_iff.1 h1).1 hnd).1 (h1.trans hs.symm)
  rw [hi, this]
theorem at_val {ps : List ByteArray} {xs : List (Int × Int)} (hnd : ps.Nodup) {k : Nat} {s : ByteArray} {p : Int × Int} (hs : ps[k]? = some s) (hp : xs[k]? = some p) : atG0 ps xs s = p.1 ∧ atG1 ps xs s = p.2 := by
  unfold atG0 atG1 loadOf
  rw [posOf_at hnd hs]
  simp [List.getD_eq_getElem?_getD, hp]

theorem info_arr2f : (Try.prog.info? 36).map (fun i => (i.zero, i.size, i.bytes)) = some (some (.agg #[.int .i64 0, .int .i64 0, .int .i64 0, .int .i64 0]), 4, 32) := by kernel_rfl
theorem snocf_run (B : Nat) (v : Value) (k : Nat) (xs : List Value) (a b c d : Int) (w : World) (ho : w.ownsRow B 36 4 v k xs) (hB : B ≤ w.heap.size) (hk : k ≤ 100000) :
    ∃ v' W2, (Builtin.append_ #[26, 26] 26 #[v, .slice (some ⟨w.heap.size, 0, none⟩) 1 1]).run Try.prog (w.alloc (.cells #[.int .i64 a, .int .i64 b, .int .i64 c, .int .i64 d] 36)) = .ok v' W2 ∧ W2.ownsRow B 36 4 v' (k + 1) (xs ++ [.int .i64 a, .int .i64 b, .int .i64 c, .int .i64 d]) ∧ Below B w W2 := by
  obtain ⟨i0, hi0, hz0, hz1, hz2⟩ := info_parts info_arr2f
  have hbW : Below B w (w.alloc (.cells #[.int .i64 a, .int .i64 b, .int .i64 c, .int .i64 d] 36)) := (Below.refl _ _).alloc hB _
  obtain ⟨v', W2, hrun, o2', hg2, -⟩ := run_append_any (P := Try.prog) (w.alloc (.cells #[.int .i64 a, .int .i64 b, .int .i64 c, .int .i64 d] 36)) B 26 26 36 i0 _ 4 32 Try.underlying26 hi0 hz0 hz1 hz2 rfl (by omega) v k _ (ho.alloc _) (w.alloc (.cells #[.int .i64 a, .int .i64 b, .int .i64 c, .int .i64 d] 36)).heap.size (some ⟨w.heap.size, 0, none⟩) 1 1 [.int .i64 a, .int .i64 b, .int .i64 c, .int .i64 d] (Blk.reads (Blk.new _ _ _) rfl) (by simp [Value.oneCell']) (by unfold maxLen; omega) (by first | omega | (simp; omega)) (by first | omega | (simp; omega))
  exact ⟨v', W2, hrun, o2', hbW.grown hg2 (Nat.le_trans hB hbW.size) (fun g hg => (own_lt ho hg).1)⟩

/-- The pivots of rockers, as they lie. -/
def pvCells (l : List Rk) (g0 g1 : ByteArray → Int) (rs : List Rk) : List Value := rs.flatMap fun r => [.int .i64 (plV l g0 r.name).1, .int .i64 (plV l g0 r.name).2, .int .i64 (plV l g1 r.name).1, .int .i64 (plV l g1 r.name).2]
theorem pvCells_snoc {l : List Rk} {g0 g1 : ByteArray → Int} {rs : List Rk} {k : Nat} {r : Rk} (h : rs[k]? = some r) : pvCells l g0 g1 (rs.take (k + 1)) = pvCells l g0 g1 (rs.take k) ++ [.int .i64 (plV l g0 r.name).1, .int .i64 (plV l g0 r.name).2, .int .i64 (plV l g1 r.name).1, .int .i64 (plV l g1 r.name).2] := by
  unfold pvCells
  rw [List.take_add_one, h, List.flatMap_append]
  simp
/-- A pivot is too large. -/
def largeB (l : List Rk) (g0 g1 : ByteArray → Int) : Bool := l.any fun r => fl2 l g0 g1 r.name
theorem fl2_rk {l : List Rk} {g0 g1 : ByteArray → Int} {s : ByteArray} (h : fl2 l g0 g1 s = true) : ∃ r ∈ l, r.name = s := by
  cases hi : idxOf l s with
  | none =>
    unfold fl2 at h
    rw [(plV_leaf g0 hi).2, (plV_leaf g1 hi).2] at h
    cases h
  | some i =>
    obtain ⟨r, h1, h2⟩ := idx_get hi
    exact ⟨r, List.mem_of_getElem? h1, h2⟩
theorem good_all {l : List Rk} {g0 g1 : ByteArray → Int} {K : ByteArray → Bool} {lg : Bool} (hG : Good l g0 g1 K lg) (hK : ∀ (i : Nat) (r : Rk), l[i]? = some r → K r.name = true) : lg = largeB l g0 g1 := by
  have h : lg = true ↔ largeB l g0 g1 = true := by
    unfold Good at hG
    rw [hG]
    unfold largeB
    rw [List.any_eq_true]
    constructor
    · rintro ⟨s, -, hs⟩
      obtain ⟨r, hr, rfl⟩ := fl2_rk hs
      exact ⟨r, hr, hs⟩
    · rintro ⟨r, hr, hs⟩
      obtain ⟨i, hi⟩ := List.getElem?_of_mem hr
      exact ⟨r.name, hK i r hi, hs⟩
  cases lg <;> cases hx : largeB l g0 g1 <;> rw [hx] at h <;> simp_all
end Go.Proofs.Ytfigbdhfmlhjdaa

end

section
/- Contracts of what asks for a number for each point, of the comparison of two lists of fractions, of the check of shares. -/
namespace Go.Proofs.Ytfigbdhfmlhjdaa
open Go.RowKit


theorem forpoints_bad (l : List Rk) (hfits : ∀ r ∈ l, r.Fits) (A : Option Addr) (n c : Nat) (m E : Int) (w : World) (hx : Reads w w.heap.size 5 A n (rkCells l)) (hn : n ≤ 100000) (hE : openErr l = E) (h0 : E ≠ 0) :
    Calls Try.prog 26 #[.slice A n c, .int .i64 m] w fun e w' => e = .returned (.tuple #[.pointer none, .int .i64 E]) ∧ Below w.heap.size w w' := by
  have e0 : (E == 0) = false := by simpa using h0
  have e1 : (E != 0) = true := by simpa using h0
  subst hE
  have H0 := Lib.hid h0
  clear h0
  go_enter Try.func26, Try.ntmps26
  have R0_0 := Lib.hid hx
  clear hx
  go_wp2_with fail
  refine (open_bad l hfits A n c _ _ R0_0.out (Nat.le_refl _) (by omega) H0.out).mono ?_
  rintro e w1 ⟨rfl, hb⟩
  have HB1 := Lib.hid (show Below w.heap.size w w1 from step_below hb (by repeat' (first | exact Below.refl _ _ | exact HB0.out | refine below_drewN ?_ _ | refine Below.drew ?_ | refine Below.alloc ?_ (by first | omega | (simp; done) | (simp; omega) | (simp [World.setCell]; omega)) _ | refine Below.setCell ?_ (by first | omega | (simp; done) | (simp; omega)) _ | assumption)))
  have hL1 := Lib.hid (show Below w.heap.size w _ from reads_mid hb (by repeat' (first | exact Below.refl _ _ | refine below_drewN ?_ _ | refine Below.drew ?_ | refine Below.alloc ?_ (by first | omega | (simp; done) | (simp; omega) | (simp [World.setCell]; omega)) _ | refine Below.setCell ?_ (by first | omega | (simp; done) | (simp; omega)) _)))
  have R0_1 := Lib.hid (reads_lay hb hL1.out R0_0.out)
  clear hL1 R0_0
  have hz1 := hb.size
  try simp only [World.size_alloc, World.drewN, World.drew] at hz1
  clear hb
  go_wp2
  go_ret2
  refine ⟨rfl, ?_⟩
  repeat' (first | exact Below.refl _ _ | exact HB1.out | refine below_drewN ?_ _ | refine Below.drew ?_ | refine Below.alloc ?_ (by first | omega | (simp; done) | (simp; omega) | (simp [World.setCell]; omega)) _ | refine Below.setCell ?_ (by first | omega | (simp; done) | (simp; omega)) _ | assumption)

/-- The tree that is open, and all that it stands on. -/
def ForPost (l : List Rk) (A : Option Addr) (n c : Nat) (w : World) (e : Ending) (w' : World) : Prop :=
  Below w.heap.size w w' ∧ ∃ tb mb, e = .returned (.tuple #[.pointer (some ⟨tb, 0, none⟩), .int .i64 0]) ∧ TreeAt l A n c tb mb (topOf l : Int) w'.heap.size w'

set_option maxHeartbeats 1000000 in
theorem forpoints_ok (l : List Rk) (hfits : ∀ r ∈ l, r.Fits) (A : Option Addr) (n c m : Nat) (w : World) (hx : Reads w w.heap.size 5 A n (rkCells l)) (hn : n ≤ 100000) (h0 : openErr l = 0) (ps : List ByteArray) (hp : ptsOf l = some ps) (hps : ps.length ≤ 1000000) (hm : ps.length = m) :
    Calls Try.prog 26 #[.slice A n c, .int .i64 (m : Int)] w (ForPost l A n c w) := by
  obtain ⟨z0, -⟩ := open_zero h0
  have htop := topOf_lt z0
  have H0 := Lib.hid h0
  have HPS := Lib.hid hp
  have htop' := Lib.hid htop
  have HX := Lib.hid hx
  subst hm
  clear h0 hp z0 htop hx
  have hx := HX.out
  go_enter Try.func26, Try.ntmps26
  have R0_0 := Lib.hid hx
  clear hx
  go_wp2_with fail
  refine (open_ok l hfits A n c _ _ R0_0.out (Nat.le_refl _) (by omega) H0.out).mono ?_
  rintro e w1 ⟨rfl, hb, ht, hm⟩
  have HB1 := Lib.hid (show Below w.heap.size w w1 from step_below hb (by repeat' (first | exact Below.refl _ _ | exact HB0.out | refine below_drewN ?_ _ | refine Below.drew ?_ | refine Below.alloc ?_ (by first | omega | (simp; done) | (simp; omega) | (simp [World.setCell]; omega)) _ | refine Below.setCell ?_ (by first | omega | (simp; done) | (simp; omega)) _ | assumption)))
  have hL1 := Lib.hid (show Below w.heap.size w _ from reads_mid hb (by repeat' (first | exact Below.refl _ _ | refine below_drewN ?_ _ | refine Below.drew ?_ | refine Below.alloc ?_ (by first | omega | (simp; done) | (simp; omega) | (simp [World.setCell]; omega)) _ | refine Below.setCell ?_ (by first | omega | (simp; done) | (simp; omega)) _)))
  have R0_1 := Lib.hid (reads_lay hb hL1.out R0_0.out)
  clear hL1 R0_0
  have hz1 := hb.size
  try simp only [World.size_alloc, World.drewN, World.drew] at hz1
  clear hb
  have HT := Lib.hid (TreeAt.of R0_1.out (Nat.le_refl _) ht hm)
  clear ht hm
  go_wp2_with fail
  refine (points_any l hfits A n c _ _ w1 (by omega) HT.out htop'.out ps HPS.out hps).mono ?_
  rintro e w2 ⟨hb2, A', c', rfl, hown⟩
  have HB2 := Lib.hid (HB1.out.trans (hb2.mono (by omega)))
  have HT2 := Lib.hid ((HT.out.below hb2).more hb2.size)
  have hq : ((ps.length : Int) != (ps.length : Int)) = false := by simp
  clear hown hb2
  go_wp2
  go_ret2
  exact ⟨HB2.out, _, _, rfl, HT2.out⟩

set_option maxHeartbeats 1000000 in
theorem forpoints_no (l : List Rk) (hfits : ∀ r ∈ l, r.Fits) (A : Option Addr) (n c m : Nat) (w : World) (hx : Reads w w.heap.size 5 A n (rkCells l)) (hn : n ≤ 100000) (h0 : openErr l = 0) (ps : List ByteArray) (hp : ptsOf l = some ps) (hps : ps.length ≤ 1000000) (hm : ps.length ≠ m) :
    Calls Try.prog 26 #[.slice A n c, .int .i64 (m : Int)] w fun e w' => e = .returned (.tuple #[.pointer none, .int .i64 10]) ∧ Below w.heap.size w w' := by
  obtain ⟨z0, -⟩ := open_zero h0
  have htop := topOf_lt z0
  have H0 := Lib.hid h0
  have HPS := Lib.hid hp
  have htop' := Lib.hid htop
  have HX := Lib.hid hx
  have HM := Lib.hid hm
  clear h0 hp z0 htop hx hm
  have hx := HX.out
  go_enter Try.func26, Try.ntmps26
  have R0_0 := Lib.hid hx
  clear hx
  go_wp2_with fail
  refine (open_ok l hfits A n c _ _ R0_0.out (Nat.le_refl _) (by omega) H0.out).mono ?_
  rintro e w1 ⟨rfl, hb, ht, hm⟩
  have HB1 := Lib.hid (show Below w.heap.size w w1 from step_below hb (by repeat' (first | exact Below.refl _ _ | exact HB0.out | refine below_drewN ?_ _ | refine Below.drew ?_ | refine Below.alloc ?_ (by first | omega | (simp; done) | (simp; omega) | (simp [World.setCell]; omega)) _ | refine Below.setCell ?_ (by first | omega | (simp; done) | (simp; omega)) _ | assumption)))
  have hL1 := Lib.hid (show Below w.heap.size w _ from reads_mid hb (by repeat' (first | exact Below.refl _ _ | refine below_drewN ?_ _ | refine Below.drew ?_ | refine Below.alloc ?_ (by first | omega | (simp; done) | (simp; omega) | (simp [World.setCell]; omega)) _ | refine Below.setCell ?_ (by first | omega | (simp; done) | (simp; omega)) _)))
  have R0_1 := Lib.hid (reads_lay hb hL1.out R0_0.out)
  clear hL1 R0_0
  have hz1 := hb.size
  try simp only [World.size_alloc, World.drewN, World.drew] at hz1
  clear hb
  have HT := Lib.hid (TreeAt.of R0_1.out (Nat.le_refl _) ht hm)
  clear ht hm
  go_wp2_with fail
  refine (points_any l hfits A n c _ _ w1 (by omega) HT.out htop'.out ps HPS.out hps).mono ?_
  rintro e w2 ⟨hb2, A', c', rfl, hown⟩
  have HB2 := Lib.hid (HB1.out.trans (hb2.mono (by omega)))
  have hq : ((ps.length : Int) != (m : Int)) = true := by have := HM.out; simp; omega
  clear hown hb2
  go_wp2
  go_ret2
  exact ⟨rfl, HB2.out⟩



end Go.Proofs.Ytfigbdhfmlhjdaa

end

section
/- The contract of Pivots. -/
namespace Go.Proofs.Ytfigbdhfmlhjdaa
open Go Go.RowKit Go.Maps

theorem pivots_bad (l : List Rk) (hfits : ∀ r ∈ l, r.Fits) (A : Option Addr) (n c : Nat) (B : Option Addr) (m cb : Nat) (E : Int) (w : World) (hx : Reads w w.heap.size 5 A n (rkCells l)) (hn : n ≤ 100000) (hE : openErr l = E) (h0 : E ≠ 0) :
    Calls Try.prog 7 #[.slice A n c, .slice B m cb] w fun e w' => e = .returned (.tuple #[.slice none 0 0, .int .i64 E]) ∧ Below w.heap.size w w' := by
  have e1 : (E != 0) = true := by simpa using h0
  have H0 := Lib.hid h0
  have HE := Lib.hid hE
  clear h0 hE
  go_enter Try.func7, Try.ntmps7
  have R0_0 := Lib.hid hx
  clear hx
  go_wp2_with fail
  refine (forpoints_bad l hfits A n c _ E _ R0_0.out (by omega) HE.out H0.out).mono ?_
  rintro e w1 ⟨rfl, hb⟩
  have HB1 := Lib.hid (show Below w.heap.size w w1 from step_below hb (by repeat' (first | exact Below.refl _ _ | exact HB0.out | refine below_drewN ?_ _ | refine Below.drew ?_ | refine Below.alloc ?_ (by first | omega | (simp; done) | (simp; omega) | (simp [World.setCell]; omega)) _ | refine Below.setCell ?_ (by first | omega | (simp; done) | (simp; omega)) _ | assumption)))
  have hL1 := Lib.hid (show Below w.heap.size w _ from reads_mid hb (by repeat' (first | exact Below.refl _ _ | refine below_drewN ?_ _ | refine Below.drew ?_ | refine Below.alloc ?_ (by first | omega | (simp; done) | (simp; omega) | (simp [World.setCell]; omega)) _ | refine Below.setCell ?_ (by first | omega | (simp; done) | (simp; omega)) _)))
  have R0_1 := Lib.hid (reads_lay hb hL1.out R0_0.out)
  clear hL1 R0_0
  have hz1 := hb.size
  try simp only [World.size_alloc, World.drewN, World.drew] at hz1
  clear hb
  go_wp2
  go_ret2
  exact ⟨rfl, HB1.out⟩
theorem pivots_no (l : List Rk) (hfits : ∀ r ∈ l, r.Fits) (A : Option Addr) (n c : Nat) (B : Option Addr) (m cb : Nat) (w : World) (hx : Reads w w.heap.size 5 A n (rkCells l)) (hn : n ≤ 100000) (h0 : openErr l = 0) (ps : List ByteArray) (hp : ptsOf l = some ps) (hps : ps.length ≤ 1000000) (hm : ps.length ≠ m) :
    Calls Try.prog 7 #[.slice A n c, .slice B m cb] w fun e w' => e = .returned (.tuple #[.slice none 0 0, .int .i64 10]) ∧ Below w.heap.size w w' := by
  have H0 := Lib.hid h0
  have HP := Lib.hid hp
  have HM := Lib.hid hm
  clear h0 hp hm
  go_enter Try.func7, Try.ntmps7
  have R0_0 := Lib.hid hx
  clear hx
  go_wp2_with fail
  refine (forpoints_no l hfits A n c m _ R0_0.out (by omega) H0.out ps HP.out hps HM.out).mono ?_
  rintro e w1 ⟨rfl, hb⟩
  have HB1 := Lib.hid (show Below w.heap.size w w1 from step_below hb (by repeat' (first | exact Below.refl _ _ | exact HB0.out | refine below_drewN ?_ _ | refine Below.drew ?_ | refine Below.alloc ?_ (by first | omega | (simp; done) | (simp; omega) | (simp [World.setCell]; omega)) _ | refine Below.setCell ?_ (by first | omega | (simp; done) | (simp; omega)) _ | assumption)))
  have hL1 := Lib.hid (show Below w.heap.size w _ from reads_mid hb (by repeat' (first | exact Below.refl _ _ | refine below_drewN ?_ _ | refine Below.drew ?_ | refine Below.alloc ?_ (by first | omega | (simp; done) | (simp; omega) | (simp [World.setCell]; omega)) _ | refine Below.setCell ?_ (by first | omega | (simp; done) | (simp; omega)) _)))
  have R0_1 := Lib.hid (reads_lay hb hL1.out R0_0.out)
  clear hL1 R0_0
  have hz1 := hb.size
  try simp only [World.size_alloc, World.drewN, World.drew] at hz1
  clear hb
  go_wp2
  go_ret2
  exact ⟨rfl, HB1.out⟩

def PivotsPost (l : List Rk) (ps : List ByteArray) (xs : List (Int × Int)) (n : Nat) (w : World) (e : Ending) (w' : World) : Prop :=
  Below w.heap.size w w' ∧ ((atB xs = false ∧ e = .returned (.tuple #[.slice none 0 0, .int .i64 2])) ∨ (atB xs = true ∧ largeB l (atG0 ps xs) (atG1 ps xs) = true ∧ e = .returned (.tuple #[.slice none 0 0, .int .i64 8])) ∨
    (atB xs = true ∧ largeB l (atG0 ps xs) (atG1 ps xs) = false ∧ ∃ A' c', e = .returned (.tuple #[.slice A' n c', .int .i64 0]) ∧ w'.ownsRow w.heap.size 36 4 (.slice A' n c') n (pvCells l (atG0 ps xs) (atG1 ps xs) l)))

end Go.Proofs.Ytfigbdhfmlhjdaa

end
