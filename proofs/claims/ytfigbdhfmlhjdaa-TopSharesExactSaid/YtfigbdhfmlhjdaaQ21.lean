import Derived.Test.YtfigbdhfmlhjdaaQ20
import Derived.Test.YtfigbdhfmlhjdaaQ18
import Derived.Test.YtfigbdhfmlhjdaaQ6

section
/- The contract of place. -/
namespace Go.Proofs.Ytfigbdhfmlhjdaa
open Go Go.RowKit Go.Maps

theorem place_any (l : List Rk) (hfits : ∀ r ∈ l, r.Fits) (h0 : openErr l = 0) (g0 g1 : ByteArray → Int) (hg0 : ∀ s, -1000000 ≤ g0 s ∧ g0 s ≤ 1000000) (hg1 : ∀ s, -1000000 ≤ g1 s ∧ g1 s ≤ 1000000) (A : Option Addr) (n c tb mb : Nat) (top : Int) (n₀ gm gp : Nat) :
    ∀ (f : Nat) (s : ByteArray) (ps : List ByteArray), pts l f s = some ps → s.size ≤ maxLen → PlaceOk l g0 g1 A n c tb mb top n₀ gm gp s ps.length ps := by
  have known : ∀ (f : Nat) (s : ByteArray) (ps : List ByteArray), pts l f s = some ps → s.size ≤ maxLen → ∀ K cnt lg w, PivAt l g0 g1 A n c tb mb top n₀ gm gp K cnt lg w → Good l g0 g1 K lg → K s = true →
      Calls Try.prog 29 #[.pointer (some ⟨gp, 0, none⟩), .string s] w (PlacePost l g0 g1 A n c tb mb top n₀ gm gp s ps.length K cnt w) := fun f s ps hp hs K cnt lg w h hG hk =>
    (place_known l g0 g1 A n c tb mb top n₀ gm gp K cnt lg w h s hs hk).mono fun e w' ⟨he, hb⟩ =>
      ⟨he, K, cnt, lg, Two.of hb, h.below hb h.gp_lt, hG, fun _ h => h, hk, by have := (pts_len _ _ _ hp).1; omega⟩
  intro f
  induction f with
  | zero =>
    intro s ps hp hs K cnt lg w h hG hK hc
    have hi : idxOf l s = none := by
      unfold pts at hp
      cases hx : idxOf l s with
      | none => rfl
      | some i => rw [hx] at hp; cases hp
    have hp2 := hp
    rw [pts_leaf hi] at hp2
    obtain rfl := Option.some.inj hp2
    exact known 0 s [s] hp hs K cnt lg w h hG (hK s (by simp))
  | succ f ih =>
    intro s ps hp hs K cnt lg w h hG hK hc
    by_cases hks : K s = true
    · exact known (f + 1) s ps hp hs K cnt lg w h hG hks
    cases hi : idxOf l s with
    | none =>
      have hp2 := hp
      rw [pts_leaf hi] at hp2
      obtain rfl := Option.some.inj hp2
      exact absurd (hK s (by simp)) hks
    | some i =>
      clear known
      unfold pts at hp
      rw [hi] at hp
      simp only at hp
      cases hr : l[i]? with
      | none => rw [hr] at hp; cases hp
      | some r =>
        rw [hr] at hp
        simp only at hp
        cases ha : pts l f r.left with
        | none => rw [ha] at hp; cases hp
        | some pa =>
          cases hb : pts l f r.right with
          | none => rw [ha, hb] at hp; cases hp
          | some pb =>
            rw [ha, hb] at hp
            obtain rfl : pa ++ pb = ps := Option.some.inj hp
            have hfit := hfits r (List.mem_of_getElem? hr)
            rw [List.length_append] at hc ⊢
            exact place_step l hfits h0 g0 g1 hg0 hg1 A n c tb mb top n₀ gm gp s hs i r hi hr pa.length pb.length pa pb (ih r.left pa ha hfit.left) (ih r.right pb hb hfit.right) K cnt lg w h hG (fun x hx => hK x (List.mem_append_left _ hx)) (fun x hx => hK x (List.mem_append_right _ hx)) (by simpa using hks) hc
end Go.Proofs.Ytfigbdhfmlhjdaa

end

section
/- Pivots: points are leaves; the coordinates of points; an append of a place. -/
namespace Go.Proofs.Ytfigbdhfmlhjdaa
open Go Go.RowKit Go.Maps

theorem leaf_mem {l : List Rk} : ∀ (f : Nat) (s : ByteArray) (ps : List ByteArray), pts l f s = some ps → ∀ x ∈ ps, idxOf l x = none := by
  intro f
  induction f with
  | zero =>
    intro s ps h x hx
    unfold pts at h
    cases hi : idxOf l s with
    | none => rw [hi] at h; obtain rfl := Option.some.inj h; obtain rfl : x = s := (by simpa using hx); exact hi
    | some i => rw [hi] at h; cases h
  | succ f ih =>
    intro s ps h x hx
    unfold pts at h
    cases hi : idxOf l s with
    | none => rw [hi] at h; obtain rfl := Option.some.inj h; obtain rfl : x = s := (by simpa using hx); exact hi
    | some i =>
      rw [hi] at h
      simp only at h
      cases hr : l[i]? with
      | none => rw [hr] at h; cases h
      | some r =>
        rw [hr] at h
        simp only at h
        cases ha : pts l f r.left with
        | none => rw [ha] at h; cases h
        | some pa =>
          cases hb : pts l f r.right with
          | none => rw [ha, hb] at h; cases h
          | some pb =>
            rw [ha, hb] at h
            obtain rfl : pa ++ pb = ps := Option.some.inj h
            rcases List.mem_append.1 hx with hx | hx
            · exact ih _ _ ha x hx
            · exact ih _ _ hb x hx

/-- All coordinates are in range. -/
def atB (xs : List (Int × Int)) : Bool := xs.all fun p => withinB p.1 (-1000000) 1000000 && withinB p.2 (-1000000) 1000000
def atG0 (ps : List ByteArray) (xs : List (Int × Int)) (s : ByteArray) : Int := loadOf ps (xs.map (·.1)) s
def atG1 (ps : List ByteArray) (xs : List (Int × Int)) (s : ByteArray) : Int := loadOf ps (xs.map (·.2)) s
theorem loadOf_rng {ps : List ByteArray} {xs : List Int} {b : Int} (hb : 0 ≤ b) (h : ∀ z ∈ xs, -b ≤ z ∧ z ≤ b) (s : ByteArray) : -b ≤ loadOf ps xs s ∧ loadOf ps xs s ≤ b := by
  unfold loadOf
  cases posOf ps s with
  | none => exact ⟨by show -b ≤ 0; omega, hb⟩
  | some i =>
    show -b ≤ xs.getD i 0 ∧ xs.getD i 0 ≤ b
    rw [List.getD_eq_getElem?_getD]
    cases hx : xs[i]? with
    | none => exact ⟨by simp; omega, by simpa using hb⟩
    | some z => exact h z (List.mem_of_getElem? hx)
theorem atB_mem {xs : List (Int × Int)} (h : atB xs = true) {p : Int × Int} (hp : p ∈ xs) : (-1000000 ≤ p.1 ∧ p.1 ≤ 1000000) ∧ (-1000000 ≤ p.2 ∧ p.2 ≤ 1000000) := by
  unfold atB at h
  have := List.all_eq_true.1 h p hp
  rw [Bool.and_eq_true, withinB_iff, withinB_iff] at this
  exact this
theorem atG0_in {ps : List ByteArray} {xs : List (Int × Int)} (h : atB xs = true) (s : ByteArray) : -1000000 ≤ atG0 ps xs s ∧ atG0 ps xs s ≤ 1000000 :=
  loadOf_rng (by omega) (fun z hz => by obtain ⟨p, hp, rfl⟩ := List.mem_map.1 hz; exact (atB_mem h hp).1) s
theorem atG1_in {ps : List ByteArray} {xs : List (Int × Int)} (h : atB xs = true) (s : ByteArray) : -1000000 ≤ atG1 ps xs s ∧ atG1 ps xs s ≤ 1000000 :=
  loadOf_rng (by omega) (fun z hz => by obtain ⟨p, hp, rfl⟩ := List.mem_map.1 hz; exact (atB_mem h hp).2) s
theorem posOf_at {ps : List ByteArray} (hnd : ps.Nodup) {k : Nat} {s : ByteArray} (hs : ps[k]? = some s) : posOf ps s = some k := by
  obtain ⟨i, hi⟩ := posOf_mem (List.mem_of_getElem? hs)
  have h1 := (posOf_some hi).1
  have : i = k := (List.getElem?_inj (List.getElem?_eq_some_iff.1 h1).1 hnd).1 (h1.trans hs.symm)
  rw [hi, this]
theorem at_val {ps : List ByteArray} {xs : List (Int × Int)} (hnd : ps.Nodup) {k : Nat} {s : ByteArray} {p : Int × Int} (hs : ps[k]? = some s) (hp : xs[k]? = some p) : atG0 ps xs s = p.1 ∧ atG1 ps xs s = p.2 := by
  unfold atG0 atG1 loadOf
  rw [posOf_at hnd hs]
  simp [List.getD_eq_getElem?_getD, hp]

theorem info_arr2f : (Try.prog.info? 36).map (fun i => (i.zero, i.size, i.bytes)) = some (some (.agg #[.int .i64 0, .int .i64 0, .int .i64 0, .int .i64 0]), 4, 32) := by kernel_rfl
theorem snocf_run (B : Nat) (v : Value) (k : Nat) (xs : List Value) (a b c d : Int) (w : World) (ho : w.ownsRow B 36 4 v k xs) (hB : B ≤ w.heap.size) (hk : k ≤ 100000) :
    ∃ v' W2, (Builtin.append_ #[26, 26] 26 #[v, .slice (some ⟨w.heap.size, 0, none⟩) 1 1]).run Try.prog (w.alloc (.cells #[.int .i64 a, .int .i64 b, .int .i64 c, .int .i64 d] 36)) = .ok v' W2 ∧ W2.ownsRow B 36 4 v' (k + 1) (xs ++ [.int .i64 a, .int .i64 b, .int .i64 c, .int .i64 d]) ∧ Below B w W2 := by
  obtain ⟨i0, hi0, hz0, hz1, hz2⟩ := info_parts info_arr2f
  have hbW : Below B w (w.alloc (.cells #[.int .i64 a, .int .i64 b, .int .i64 c, .int .i64 d] 36)) := (Below.refl _ _).alloc hB _
  obtain ⟨v', W2, hrun, o2', hg2, -⟩ := run_append_any (P := Try.prog) (w.alloc (.cells #[.int .i64 a, .int .i64 b, .int .i64 c, .int .i64 d] 36)) B 26 26 36 i0 _ 4 32 Try.underlying26 hi0 hz0 hz1 hz2 rfl (by omega) v k _ (ho.alloc _) (w.alloc (.cells #[.int .i64 a, .int .i64 b, .int .i64 c, .int .i64 d] 36)).heap.size (some ⟨w.heap.size, 0, none⟩) 1 1 [.int .i64 a, .int .i64 b, .int .i64 c, .int .i64 d] (Blk.reads (Blk.new _ _ _) rfl) (by simp [Value.oneCell']) (by unfold maxLen; omega) (by first | omega | (simp; omega)) (by first | omega | (simp; omega))
  exact ⟨v', W2, hrun, o2', hbW.grown hg2 (Nat.le_trans hB hbW.size) (fun g hg => (own_lt ho hg).1)⟩

/-- The pivots of rockers, as they lie. -/
def pvCells (l : List Rk) (g0 g1 : ByteArray → Int) (rs : List Rk) : List Value := rs.flatMap fun r => [.int .i64 (plV l g0 r.name).1, .int .i64 (plV l g0 r.name).2, .int .i64 (plV l g1 r.name).1, .int .i64 (plV l g1 r.name).2]
theorem pvCells_snoc {l : List Rk} {g0 g1 : ByteArray → Int} {rs : List Rk} {k : Nat} {r : Rk} (h : rs[k]? = some r) : pvCells l g0 g1 (rs.take (k + 1)) = pvCells l g0 g1 (rs.take k) ++ [.int .i64 (plV l g0 r.name).1, .int .i64 (plV l g0 r.name).2, .int .i64 (plV l g1 r.name).1, .int .i64 (plV l g1 r.name).2] := by
  unfold pvCells
  rw [List.take_add_one, h, List.flatMap_append]
  simp
/-- A pivot is too large. -/
def largeB (l : List Rk) (g0 g1 : ByteArray → Int) : Bool := l.any fun r => fl2 l g0 g1 r.name
theorem fl2_rk {l : List Rk} {g0 g1 : ByteArray → Int} {s : ByteArray} (h : fl2 l g0 g1 s = true) : ∃ r ∈ l, r.name = s := by
  cases hi : idxOf l s with
  | none =>
    unfold fl2 at h
    rw [(plV_leaf g0 hi).2, (plV_leaf g1 hi).2] at h
    cases h
  | some i =>
    obtain ⟨r, h1, h2⟩ := idx_get hi
    exact ⟨r, List.mem_of_getElem? h1, h2⟩
theorem good_all {l : List Rk} {g0 g1 : ByteArray → Int} {K : ByteArray → Bool} {lg : Bool} (hG : Good l g0 g1 K lg) (hK : ∀ (i : Nat) (r : Rk), l[i]? = some r → K r.name = true) : lg = largeB l g0 g1 := by
  have h : lg = true ↔ largeB l g0 g1 = true := by
    unfold Good at hG
    rw [hG]
    unfold largeB
    rw [List.any_eq_true]
    constructor
    · rintro ⟨s, -, hs⟩
      obtain ⟨r, hr, rfl⟩ := fl2_rk hs
      exact ⟨r, hr, hs⟩
    · rintro ⟨r, hr, hs⟩
      obtain ⟨i, hi⟩ := List.getElem?_of_mem hr
      exact ⟨r.name, hK i r hi, hs⟩
  cases lg <;> cases hx : largeB l g0 g1 <;> rw [hx] at h <;> simp_all
end Go.Proofs.Ytfigbdhfmlhjdaa

end

section
/- Plain law: shares balance all rockers. -/
namespace Go.Proofs.Ytfigbdhfmlhjdaa
open Go.RowKit

/-- A rocker that is gone through below a thing. -/
def rch (l : List Rk) : Nat → ByteArray → Rk → Prop
  | 0, _, _ => False
  | f + 1, s, r => ∃ i r0, idxOf l s = some i ∧ l[i]? = some r0 ∧ (r = r0 ∨ rch l f r0.left r ∨ rch l f r0.right r)
theorem rch_self {l : List Rk} {f : Nat} {s : ByteArray} {i : Nat} {r : Rk} (hi : idxOf l s = some i) (hr : l[i]? = some r) : rch l (f + 1) s r := ⟨i, r, hi, hr, .inl rfl⟩
theorem rch_in {l : List Rk} {f : Nat} {s : ByteArray} {ps : List ByteArray} {i : Nat} {r : Rk} (hi : idxOf l s = some i) (hr : l[i]? = some r) (hp : pts l f s = some ps) : rch l f s r := by
  cases f with
  | zero => unfold pts at hp; rw [hi] at hp; cases hp
  | succ f => exact rch_self hi hr
theorem rch_up {l : List Rk} {r r' : Rk} {i : Nat} (hi : idxOf l r.name = some i) (hr : l[i]? = some r) (hc : r'.left = r.name ∨ r'.right = r.name) : ∀ (f : Nat) (s : ByteArray) (ps : List ByteArray), pts l f s = some ps → rch l f s r' → rch l f s r
  | 0, _, _, _, h => h.elim
  | f + 1, s, ps, hp, h => by
    obtain ⟨j, r0, hj, hr0, h⟩ := h
    obtain ⟨pa, pb, ha, hb, -⟩ := pts_step hj hr0 hp
    rcases h with rfl | h | h
    · rcases hc with hc | hc
      · exact ⟨j, r', hj, hr0, .inr (.inl (by rw [hc] at ha ⊢; exact rch_in hi hr ha))⟩
      · exact ⟨j, r', hj, hr0, .inr (.inr (by rw [hc] at hb ⊢; exact rch_in hi hr hb))⟩
    · exact ⟨j, r0, hj, hr0, .inr (.inl (rch_up hi hr hc f _ _ ha h))⟩
    · exact ⟨j, r0, hj, hr0, .inr (.inr (rch_up hi hr hc f _ _ hb h))⟩
theorem rch_top {l : List Rk} (h : openErr l = 0) {ps : List ByteArray} (hp : ptsOf l = some ps) : ∀ (f : Nat) (i : Nat) (r : Rk), l[i]? = some r → climbs l f r.name = false → rch l l.length (topName l) r
  | f, i, r, hr, hc => by
    have hi := idx_name (open_zero h).2.2.1 hr
    cases hb : bearerOf l r.name with
    | none =>
      have hT : hasB (borneAll l) r.name = false := by
        have := bearer_mem (l := l) (s := r.name)
        rw [hb] at this
        cases hh : hasB (borneAll l) r.name with
        | false => rfl
        | true => rw [hh] at this; cases this
      rw [top_name h hr hT]
      exact rch_in hi hr (below_pts h r.name)
    | some j =>
      obtain ⟨r', hr', hs⟩ := bearer_get hb
      cases f with
      | zero => simp [climbs, hb] at hc
      | succ f => exact rch_up hi hr hs _ _ _ hp (rch_top h hp f j r' hr' (by simpa [climbs, hb, hr'] using hc))
theorem rch_all {l : List Rk} (h : openErr l = 0) {ps : List ByteArray} (hp : ptsOf l = some ps) {i : Nat} {r : Rk} (hr : l[i]? = some r) : rch l l.length (topName l) r := by
  obtain ⟨h0, h1, h2, hn, h4, h5⟩ := open_zero h
  exact rch_top h hp _ i r hr (by simpa using List.any_eq_false.1 h4 r (List.mem_of_getElem? hr))
theorem match_sum {φ : ByteArray → Rat} : ∀ (ps : List ByteArray) (ys : List (Int × Int)), ys.length = ps.length → (∀ (j : Nat) x y, ps[j]? = some x → ys[j]? = some y → φ x = vl y) → rsum (ps.map φ) = rsum (ys.map vl)
  | [], [], _, _ => rfl
  | x :: ps, y :: ys, hl, h => by
    show φ x + rsum (ps.map φ) = vl y + rsum (ys.map vl)
    rw [h 0 x y rfl rfl, match_sum ps ys (by simpa using hl) fun j a b ha hb => h (j + 1) a b (by simpa using ha) (by simpa using hb)]
theorem bal {l : List Rk} (harms : ArmsOK l) {φ : ByteArray → Rat} : ∀ (f : Nat) (s : ByteArray) (n d : Int) (ps : List ByteArray) (ys : List (Int × Int)), f ≤ l.length → d ≠ 0 → pts l f s = some ps → sh l f s n d = some ys → (∀ (j : Nat) x y, ps[j]? = some x → ys[j]? = some y → φ x = vl y) → ∀ r, rch l f s r → (r.al : Rat) * rsum ((below_ l r.left).map φ) = (r.ar : Rat) * rsum ((below_ l r.right).map φ)
  | 0, _, _, _, _, _, _, _, _, _, _, _, h => h.elim
  | f + 1, s, n, d, ps, ys, hf, hd, hp, hs, hm, r, h => by
    obtain ⟨j, r0, hj, hr0, h⟩ := h
    obtain ⟨pa, pb, ha, hb, rfl⟩ := pts_step hj hr0 hp
    obtain ⟨x, y, hx, hy, rfl⟩ := sh_step hj hr0 hs
    obtain ⟨a1, a2, a3, a4⟩ := harms r0 (List.mem_of_getElem? hr0)
    have hab : r0.al + r0.ar ≠ 0 := by omega
    have hdd := Int.mul_ne_zero hd hab
    have lx := sh_length l f r0.left _ _ pa x ha hx
    have ly := sh_length l f r0.right _ _ pb y hb hy
    have m1 : ∀ (j : Nat) u v, pa[j]? = some u → x[j]? = some v → φ u = vl v := fun j u v hu hv => hm j u v (by rw [List.getElem?_append_left (List.getElem?_eq_some_iff.1 hu).1]; exact hu) (by rw [List.getElem?_append_left (List.getElem?_eq_some_iff.1 hv).1]; exact hv)
    have m2 : ∀ (j : Nat) u v, pb[j]? = some u → y[j]? = some v → φ u = vl v := fun j u v hu hv => hm (pa.length + j) u v (by rw [List.getElem?_append_right (by omega), Nat.add_sub_cancel_left]; exact hu) (by rw [List.getElem?_append_right (by omega), lx, Nat.add_sub_cancel_left]; exact hv)
    rcases h with rfl | h | h
    · rw [below_of (by omega) ha, below_of (by omega) hb, match_sum pa x lx m1, match_sum pb y ly m2, sh_sum harms f _ _ _ _ _ (redD_ne hdd) ha hx, sh_sum harms f _ _ _ _ _ (redD_ne hdd) hb hy, side_val hd hab, side_val hd hab]
      have q := rat_ne hab
      push_cast at q
      grind
    · exact bal harms f _ _ _ _ _ (by omega) (redD_ne hdd) ha hx m1 r h
    · exact bal harms f _ _ _ _ _ (by omega) (redD_ne hdd) hb hy m2 r h
theorem sumF_rsum (g : ByteArray → Int) : ∀ (qs : List ByteArray) (t : Int), ((qs.foldl (fun t s => t + g s) t : Int) : Rat) = (t : Rat) + rsum (qs.map fun x => (g x : Rat))
  | [], t => by show (t : Rat) = (t : Rat) + 0; grind
  | x :: qs, t => by
    show ((qs.foldl (fun t s => t + g s) (t + g x) : Int) : Rat) = (t : Rat) + ((g x : Rat) + rsum _)
    rw [sumF_rsum g qs (t + g x)]
    push_cast
    grind
theorem rsum_mul {φ : ByteArray → Rat} {g : ByteArray → Int} {U : Rat} (h : ∀ x, (g x : Rat) = U * φ x) : ∀ qs : List ByteArray, rsum (qs.map fun x => (g x : Rat)) = U * rsum (qs.map φ)
  | [] => by show (0 : Rat) = U * 0; grind
  | x :: qs => by
    show (g x : Rat) + rsum (qs.map fun x => (g x : Rat)) = U * (φ x + rsum (qs.map φ))
    rw [rsum_mul h qs, h x]
    grind
/-- Forces that are the shares, times a number, balance all rockers. -/
theorem all_bal {l : List Rk} (h : openErr l = 0) {ps : List ByteArray} (hp : ptsOf l = some ps) {ys : List (Int × Int)} (hs : sharesOf l = some ys) {xs : List Int} {U : Int} (hxl : xs.length = ys.length) (hx : ∀ (j : Nat) y z, ys[j]? = some y → xs[j]? = some z → (z : Rat) = (U : Rat) * vl y) : unbTo l (sidesOf l ps xs) l.length = [] := by
  have harms := arms_of h
  have hnd := points_nodup h hp
  have hyl : ys.length = ps.length := sh_length l _ _ _ _ ps ys (by unfold ptsOf at hp; exact hp) hs
  obtain ⟨φ, hφ⟩ : ∃ φ : ByteArray → Rat, φ = fun x => match posOf ps x with | some j => vl (ys.getD j (0, 1)) | none => 0 := ⟨_, rfl⟩
  have hm : ∀ (j : Nat) x y, ps[j]? = some x → ys[j]? = some y → φ x = vl y := fun j x y hj hy => by
    rw [hφ]
    simp only [posOf_at hnd hj]
    rw [List.getD_eq_getElem?_getD, hy]
    rfl
  have hg : ∀ x, (loadOf ps xs x : Rat) = (U : Rat) * φ x := fun x => by
    have hφx : φ x = match posOf ps x with | some j => vl (ys.getD j (0, 1)) | none => 0 := by rw [hφ]
    unfold loadOf
    rw [hφx]
    cases hq : posOf ps x with
    | none => simp only; grind
    | some j =>
      simp only
      have hjl := (List.getElem?_eq_some_iff.1 (posOf_some hq).1).1
      have e1 := List.getElem?_eq_getElem (show j < ys.length by omega)
      have e2 := List.getElem?_eq_getElem (show j < xs.length by omega)
      rw [List.getD_eq_getElem?_getD, List.getD_eq_getElem?_getD, e1, e2]
      exact hx j _ _ e1 e2
  have hu : ∀ s, (underI l ps xs s : Rat) = (U : Rat) * rsum ((below_ l s).map φ) := fun s => by
    unfold underI sumF
    rw [sumF_rsum, rsum_mul hg]
    grind
  unfold unbTo
  rw [List.map_eq_nil_iff, List.filter_eq_nil_iff]
  intro i hi
  have hil := List.mem_range.1 hi
  have hr := List.getElem?_eq_getElem hil
  have hb := bal harms l.length (topName l) 1 1 ps ys (Nat.le_refl _) (by decide) (by unfold ptsOf at hp; exact hp) hs hm _ (rch_all h hp hr)
  have hS : (sidesOf l ps xs)[i]? = some (underI l ps xs l[i].left, underI l ps xs l[i].right) := by unfold sidesOf; rw [List.getElem?_map, hr]; rfl
  unfold unbB
  rw [hr, hS]
  have e : l[i].al * underI l ps xs l[i].left = l[i].ar * underI l ps xs l[i].right := by
    have h1 := hu l[i].left
    have h2 := hu l[i].right
    have : (l[i].al : Rat) * (underI l ps xs l[i].left : Rat) = (l[i].ar : Rat) * (underI l ps xs l[i].right : Rat) := by rw [h1, h2]; grind
    exact_mod_cast this
  simp [e]
end Go.Proofs.Ytfigbdhfmlhjdaa

end
