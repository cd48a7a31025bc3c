import Derived.Test.YtoiconebcmneiabQ22
import Derived.Test.YtoiconebcmneiabQ23

section
/- The plain law of arms, joined: the tree with new arms is sound, balanced, and its shares are those of the loads. -/
namespace Go.Proofs.Ytoiconebcmneiab
open Go.RowKit

def sumI (xs : List Int) : Int := xs.foldl (fun t z => t + z) 0
theorem sumI_snoc (xs : List Int) (z : Int) : sumI (xs ++ [z]) = sumI xs + z := by unfold sumI; rw [List.foldl_append]; rfl
theorem sumI_map (g : ByteArray → Int) (qs : List ByteArray) : sumF g qs = sumI (qs.map g) := by unfold sumF sumI; rw [List.foldl_map]
theorem sumI_bound : ∀ (xs : List Int) (t : Int), (∀ z ∈ xs, 1 ≤ z ∧ z ≤ 1000000) → t + xs.length ≤ xs.foldl (fun t z => t + z) t ∧ xs.foldl (fun t z => t + z) t ≤ t + 1000000 * xs.length
  | [], t, _ => by simp
  | z :: xs, t, h => by
    have h1 := sumI_bound xs (t + z) fun x hx => h x (by simp [hx])
    have h2 := h z (by simp)
    rw [List.foldl_cons, List.length_cons]
    push_cast
    omega
theorem load_map {ps : List ByteArray} {xs : List Int} (hnd : ps.Nodup) (hl : ps.length = xs.length) : ps.map (loadOf ps xs) = xs := by
  apply List.ext_getElem
  · rw [List.length_map, hl]
  intro i h1 h2
  rw [List.length_map] at h1
  rw [List.getElem_map]
  obtain ⟨j, hj⟩ := posOf_mem (List.getElem_mem h1)
  obtain ⟨g1, g2⟩ := List.getElem?_eq_some_iff.1 (posOf_some hj).1
  have : j = i := by
    rcases Nat.lt_trichotomy j i with h | h | h
    · exact absurd g2 (List.pairwise_iff_getElem.1 hnd j i g1 h1 h)
    · exact h
    · exact absurd g2.symm (List.pairwise_iff_getElem.1 hnd i j h1 g1 h)
  subst this
  unfold loadOf
  rw [hj]
  simp only
  rw [List.getD, List.getElem?_eq_getElem h2]
  rfl

structure ArmsX (l : List Rk) (ps : List ByteArray) (xs : List Int) (X : List Rk) : Prop where
  len : X.length = l.length
  fits : (∀ r ∈ l, r.Fits) → ∀ r ∈ X, r.Fits
  open_ : openErr X = 0
  pts : ptsOf X = some ps
  below : ∀ s, below_ X s = below_ l s
  bal : unbTo X (sidesOf X ps xs) l.length = []
  shares : ∀ ys, sharesOf X = some ys → ys = xs.map fun z => (redN z (sumI xs), redD z (sumI xs))
  pos : 1 ≤ sumI xs ∧ sumI xs ≤ 1000000 * xs.length

theorem fits_bare : ∀ (l X : List Rk), Alike l X → (∀ r ∈ l, r.Fits) → ∀ r ∈ X, r.Fits
  | [], X, h, _ => by
    have := h.len
    obtain rfl := List.eq_nil_of_length_eq_zero (by simpa using this.symm)
    simp
  | y :: l, [], h, _ => by simp
  | y :: l, x :: X, h, hf => by
    unfold Alike at h
    rw [List.map_cons, List.map_cons] at h
    obtain ⟨h1, h2⟩ := List.cons.inj h
    have e1 : y.name = x.name := by have := congrArg Rk.name h1; exact this
    have e2 : y.left = x.left := by have := congrArg Rk.left h1; exact this
    have e3 : y.right = x.right := by have := congrArg Rk.right h1; exact this
    intro r hr
    rcases List.mem_cons.1 hr with rfl | hr
    · have := hf y (by simp)
      exact ⟨e1 ▸ this.name, e2 ▸ this.left, e3 ▸ this.right⟩
    · exact fits_bare l X h2 (fun r hr => hf r (by simp [hr])) r hr

theorem arms_x {l : List Rk} (h0 : openErr l = 0) {ps : List ByteArray} (hp : ptsOf l = some ps) {xs : List Int} (hE : armsErr ps.length xs = 0) (hb : (sidesOf l ps xs).any bigA = false) : ArmsX l ps xs (List.zipWith armR l (sidesOf l ps xs)) := by
  obtain ⟨hl, -, hxs⟩ := arms_parts hE
  have hside := fun (i : Nat) (r : Rk) (hr : l[i]? = some r) => And.intro (side_pos h0 hp hl hxs hr (s := r.left) (.inl rfl)) (side_pos h0 hp hl hxs hr (s := r.right) (.inr rfl))
  have hsl : (sidesOf l ps xs).length = l.length := by unfold sidesOf; rw [List.length_map]
  have hA : Alike l (List.zipWith armR l (sidesOf l ps xs)) := arms_alike _ _ hsl
  have hget : ∀ i r, l[i]? = some r → (List.zipWith armR l (sidesOf l ps xs))[i]? = some (armR r (underI l ps xs r.left, underI l ps xs r.right)) := fun i r hr => by
    rw [List.getElem?_zipWith]; unfold sidesOf; rw [List.getElem?_map, hr]; rfl
  have hok : ArmsOK (List.zipWith armR l (sidesOf l ps xs)) := by
    intro x hx
    obtain ⟨i, hi⟩ := List.getElem?_of_mem hx
    have hil : i < l.length := by have := (List.getElem?_eq_some_iff.1 hi).1; rw [List.length_zipWith] at this; omega
    have hr := List.getElem?_eq_getElem hil
    rw [hget i _ hr] at hi
    obtain rfl := Option.some.inj hi
    obtain ⟨p1, p2⟩ := hside i _ hr
    have hmem : (underI l ps xs l[i].left, underI l ps xs l[i].right) ∈ sidesOf l ps xs := by
      unfold sidesOf; exact List.mem_map.2 ⟨l[i], List.getElem_mem hil, rfl⟩
    have hnb : bigA (underI l ps xs l[i].left, underI l ps xs l[i].right) = false := by simpa using List.any_eq_false.1 hb _ hmem
    unfold bigA at hnb
    simp only [Bool.or_eq_false_iff, decide_eq_false_iff_not] at hnb
    obtain ⟨m3, m4⟩ := red_mul (a := underI l ps xs l[i].right) (b := underI l ps xs l[i].left) (by omega)
    have m5 : 0 < redN (underI l ps xs l[i].right) (underI l ps xs l[i].left) := by
      have : 0 < redN (underI l ps xs l[i].right) (underI l ps xs l[i].left) * underI l ps xs l[i].left := by rw [m3]; exact Int.mul_pos m4 (by omega)
      exact Int.pos_of_mul_pos_left this (by omega)
    unfold armR
    simp only
    omega
  have hX0 := open_alike hA hok h0
  have hnd := points_nodup h0 hp
  have hmap := load_map hnd hl
  have hT : underI l ps xs (topName l) = sumI xs := by unfold underI; rw [points_below h0 hp, sumI_map, hmap]
  have hne : 1 ≤ ps.length := (pts_len _ _ _ hp).1
  have hpos : 1 ≤ sumI xs ∧ sumI xs ≤ 1000000 * xs.length := by
    have := sumI_bound xs 0 hxs
    unfold sumI
    omega
  refine ⟨hA.len.symm, fits_bare _ _ hA, hX0, by rw [hA.ptsOf, hp], hA.below, ?_, ?_, hpos⟩
  · have hunder : ∀ s, underI (List.zipWith armR l (sidesOf l ps xs)) ps xs s = underI l ps xs s := fun s => by unfold underI; rw [hA.below]
    have hnone : ∀ k, k ≤ l.length → unbTo (List.zipWith armR l (sidesOf l ps xs)) (sidesOf (List.zipWith armR l (sidesOf l ps xs)) ps xs) k = [] := by
      intro k
      induction k with
      | zero => intro _; rfl
      | succ k ih =>
        intro hk
        have hr := List.getElem?_eq_getElem (show k < l.length by omega)
        have hx := hget k _ hr
        have hs : (sidesOf (List.zipWith armR l (sidesOf l ps xs)) ps xs)[k]? = some (underI l ps xs l[k].left, underI l ps xs l[k].right) := by
          conv => lhs; unfold sidesOf
          rw [List.getElem?_map]
          rw [show (List.zipWith armR l (l.map fun r => (underI l ps xs r.left, underI l ps xs r.right)))[k]? = some (armR l[k] (underI l ps xs l[k].left, underI l ps xs l[k].right)) from hx]
          simp only [Option.map_some]
          exact congrArg some (Prod.ext (hunder _) (hunder _))
        rw [unbTo_succ, ih (by omega), unbB_at hx hs]
        obtain ⟨p1, p2⟩ := hside k _ hr
        obtain ⟨m3, -⟩ := red_mul (a := underI l ps xs l[k].right) (b := underI l ps xs l[k].left) (by omega)
        have : (armR l[k] (underI l ps xs l[k].left, underI l ps xs l[k].right)).al * underI l ps xs l[k].left = (armR l[k] (underI l ps xs l[k].left, underI l ps xs l[k].right)).ar * underI l ps xs l[k].right := m3
        simp [this]
    exact hnone _ (Nat.le_refl _)
  · intro ys hys
    unfold sharesOf at hys
    rw [hA.top, ← hA.len] at hys
    have e1 : redN (sumI xs) (sumI xs) = 1 ∧ redD (sumI xs) (sumI xs) = 1 := by
      have h := red_eq (a := sumI xs) (b := sumI xs) (c := 1) (d := 1) (by omega) (by omega) (by omega)
      exact ⟨h.1, h.2⟩
    have := arms_sh (l := l) (ps := ps) (xs := xs) (T := sumI xs) (by omega) hside l.length (Nat.le_refl _) (topName l) ps ys hp (by rw [hT, e1.1, e1.2]; exact hys)
    rw [this]
    generalize sumI xs = T
    conv => rhs; rw [← hmap]
    rw [List.map_map]
    rfl

end Go.Proofs.Ytoiconebcmneiab

end
