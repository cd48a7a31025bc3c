/- The plain law of shares: the points of a tree are different from each other. -/
import Derived.Test.YtmioamcgbihhjaaTreeLaw
import Derived.Test.YtmioamcgbihhjaaPoints
namespace Go.Proofs.Ytmioamcgbihhjaa
open Go.RowKit

theorem pts_up {l : List Rk} (hn : (borneAll l).Nodup) : ∀ (f : Nat) (s : ByteArray) (ps : List ByteArray), pts l f s = some ps → ∀ x ∈ ps, ∃ d, upN l d x = some s := by
  intro f
  induction f with
  | zero =>
    intro s ps hp x hx
    unfold pts at hp
    cases hi : idxOf l s with
    | none => rw [hi] at hp; obtain rfl := Option.some.inj hp; simp at hx; exact ⟨0, by rw [hx]; rfl⟩
    | some i => rw [hi] at hp; cases hp
  | succ f ih =>
    intro s ps hp x hx
    unfold pts at hp
    cases hi : idxOf l s with
    | none => rw [hi] at hp; obtain rfl := Option.some.inj hp; simp at hx; exact ⟨0, by rw [hx]; rfl⟩
    | some i =>
      obtain ⟨r0, hr0, hs0⟩ := idx_get hi
      rw [hi] at hp
      simp only at hp
      cases hr : l[i]? with
      | none => rw [hr] at hp; cases hp
      | some r =>
        rw [hr] at hp
        simp only at hp
        obtain rfl := Option.some.inj (hr0.symm.trans hr)
        cases ha : pts l f r0.left with
        | none => rw [ha] at hp; cases hp
        | some a =>
          cases hb : pts l f r0.right with
          | none => rw [ha, hb] at hp; cases hp
          | some b =>
            rw [ha, hb] at hp
            obtain rfl := Option.some.inj hp
            rcases List.mem_append.1 hx with hx | hx
            · obtain ⟨d, hd⟩ := ih _ _ ha x hx
              refine ⟨d + 1, ?_⟩
              show (upN l d x).bind (upOf l) = _
              rw [hd, ← hs0]
              exact up_of_child hn hr (.inl rfl)
            · obtain ⟨d, hd⟩ := ih _ _ hb x hx
              refine ⟨d + 1, ?_⟩
              show (upN l d x).bind (upOf l) = _
              rw [hd, ← hs0]
              exact up_of_child hn hr (.inr rfl)

theorem borne_ne {l : List Rk} (hn : (borneAll l).Nodup) {i : Nat} {r : Rk} (hr : l[i]? = some r) : r.left ≠ r.right := by
  intro e
  induction l generalizing i with
  | nil => simp at hr
  | cons x l ih =>
    have e2 : borneAll (x :: l) = [x.left, x.right] ++ borneAll l := rfl
    rw [e2, List.nodup_append] at hn
    cases i with
    | zero => simp at hr; subst hr; have := hn.1; simp at this; exact this e
    | succ i => exact ih hn.2.1 (by simpa using hr)

theorem pts_nodup {l : List Rk} (hn : (borneAll l).Nodup) (hc : l.any (fun r => climbs l (l.length + 1) r.name) = false) : ∀ (f : Nat) (s : ByteArray) (ps : List ByteArray), pts l f s = some ps → ps.Nodup := by
  intro f
  induction f with
  | zero =>
    intro s ps hp
    unfold pts at hp
    cases hi : idxOf l s with
    | none => rw [hi] at hp; obtain rfl := Option.some.inj hp; simp
    | some i => rw [hi] at hp; cases hp
  | succ f ih =>
    intro s ps hp
    unfold pts at hp
    cases hi : idxOf l s with
    | none => rw [hi] at hp; obtain rfl := Option.some.inj hp; simp
    | some i =>
      rw [hi] at hp
      simp only at hp
      cases hr : l[i]? with
      | none => rw [hr] at hp; cases hp
      | some r =>
        rw [hr] at hp
        simp only at hp
        cases ha : pts l f r.left with
        | none => rw [ha] at hp; cases hp
        | some a =>
          cases hb : pts l f r.right with
          | none => rw [ha, hb] at hp; cases hp
          | some b =>
            rw [ha, hb] at hp
            obtain rfl := Option.some.inj hp
            refine List.nodup_append.2 ⟨ih _ _ ha, ih _ _ hb, fun x hx y hy => ?_⟩
            rintro rfl
            have hu1 : upN l 1 r.left = some r.name := up_of_child hn hr (.inl rfl)
            have hu2 : upN l 1 r.right = some r.name := up_of_child hn hr (.inr rfl)
            have hno : ∀ k, upN l (k + 1) r.name ≠ some r.name := fun k hk => by
              have := circ_yes (List.mem_of_getElem? hr) ⟨k + 1, by omega, Nat.le_refl _, hk⟩
              rw [hc] at this
              cases this
            -- from one side up to the other: round
            have key : ∀ (p q : ByteArray) (d1 k : Nat), upN l d1 x = some p → upN l (d1 + k) x = some q → upN l 1 p = some r.name → upN l 1 q = some r.name → p ≠ q → False := by
              intro p q d1 k h1 h2 u1 u2 hne
              rw [upN_add l d1 k x p h1] at h2
              cases k with
              | zero => exact hne (Option.some.inj h2)
              | succ k =>
                rw [show k + 1 = 1 + k by omega, upN_add l 1 k p _ u1] at h2
                refine hno k ?_
                rw [upN_add l k 1 _ q h2]
                exact u2
            obtain ⟨d1, h1⟩ := pts_up hn _ _ _ ha x hx
            obtain ⟨d2, h2⟩ := pts_up hn _ _ _ hb x hy
            have hne := borne_ne hn hr
            rcases Nat.le_total d1 d2 with h | h
            · exact key _ _ d1 (d2 - d1) h1 (by rw [show d1 + (d2 - d1) = d2 by omega]; exact h2) hu1 hu2 hne
            · exact key _ _ d2 (d1 - d2) h2 (by rw [show d2 + (d1 - d2) = d1 by omega]; exact h1) hu2 hu1 (Ne.symm hne)

theorem points_nodup {l : List Rk} (h : openErr l = 0) {ps : List ByteArray} (hp : ptsOf l = some ps) : ps.Nodup := by
  obtain ⟨-, -, -, hn, hc, -⟩ := open_zero h
  exact pts_nodup hn hc _ _ _ hp

theorem cells2_set (l : List (Int × Int)) : ∀ (i : Nat) (a b : Int), ((cells2 l).set (i * 2) (.int .i64 a)).set (i * 2 + 1) (.int .i64 b) = cells2 (l.set i (a, b)) := by
  induction l with
  | nil => intro i a b; simp [cells2]
  | cons p l ih =>
    intro i a b
    have e : cells2 (p :: l) = .int .i64 p.1 :: .int .i64 p.2 :: cells2 l := rfl
    cases i with
    | zero => rfl
    | succ i =>
      rw [e, show (i + 1) * 2 = i * 2 + 1 + 1 by omega]
      simp only [List.set_cons_succ]
      rw [ih]
      rfl

theorem set_mid {α : Type} (o1 om o2 : List α) (x : α) (h : om.length = 1) : (o1 ++ om ++ o2).set o1.length x = o1 ++ [x] ++ o2 := by
  match om, h with
  | [y], _ => rw [List.append_assoc, List.set_append_right _ _ (Nat.le_refl _), Nat.sub_self]; simp

/-- A list cut in three. -/
theorem cut3 {α : Type} (zs : List α) (a b : Nat) : zs = zs.take a ++ (zs.drop a).take b ++ zs.drop (a + b) := by
  rw [List.append_assoc, ← List.drop_drop, List.take_append_drop, List.take_append_drop]

end Go.Proofs.Ytmioamcgbihhjaa
