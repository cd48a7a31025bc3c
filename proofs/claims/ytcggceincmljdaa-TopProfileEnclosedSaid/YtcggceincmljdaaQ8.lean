import Derived.Test.YtcggceincmljdaaQ7

section
/- Plain law of measured profiles: readings of a true profile are right, and half the errors never widen the table. -/
namespace Go.Proofs.Ytcggceincmljdaa

theorem measL_mem {hs : List Int} {part : Int} {ps es : List (Int × Int)} {q : Quad} (h : q ∈ measL hs part ps es) : ∃ p e, p ∈ ps ∧ e ∈ es ∧ q = measQ hs part p e := by
  unfold measL at h
  obtain ⟨⟨p, e⟩, hx, rfl⟩ := List.mem_map.1 h
  exact ⟨p, e, (List.of_mem_zip hx).1, (List.of_mem_zip hx).2, rfl⟩
theorem hgt_in {hs : List Int} (hh : ∀ z ∈ hs, -100000 ≤ z ∧ z ≤ 100000) (v : Nat) : -100000 ≤ hgtF hs v ∧ hgtF hs v ≤ 100000 := by
  unfold hgtF
  rw [List.getD_eq_getElem?_getD]
  cases h : hs[v]? with
  | none => show (-100000 : Int) ≤ 0 ∧ (0 : Int) ≤ 100000; omega
  | some z => exact hh z (List.mem_of_getElem? h)
theorem half_in {e part : Int} (hp : part = 1 ∨ part = 2) (h : 0 ≤ e ∧ e ≤ 100000) : 0 ≤ e / part ∧ e / part ≤ 100000 := by
  rcases hp with rfl | rfl <;> omega
theorem meas_rd {hs : List Int} {ps es : List (Int × Int)} (h : MeasOk hs ps es) {part : Int} (hp : part = 1 ∨ part = 2) : RdOk hs.length (measL hs part ps es) := by
  intro q hq
  obtain ⟨p, e, h1, h2, rfl⟩ := measL_mem hq
  have a1 := h.par p h1
  have a2 := h.err e h2
  have b1 := half_in hp a2.1
  have b2 := half_in hp a2.2
  have c1 := hgt_in h.hgt p.1.toNat
  have c2 := hgt_in h.hgt p.2.toNat
  refine ⟨a1.1, a1.2.1, a1.2.2, ?_, ?_, ?_⟩ <;> (show _ ≤ _; simp only [measQ]; omega)
theorem meas_keep {hs : List Int} {ps es : List (Int × Int)} (h : MeasOk hs ps es) {part : Int} (hp : part = 1 ∨ part = 2) : KeepQ (hgtF hs) (measL hs part ps es) := by
  intro q hq
  obtain ⟨p, e, h1, h2, rfl⟩ := measL_mem hq
  have a2 := h.err e h2
  have b1 := half_in hp a2.1
  have b2 := half_in hp a2.2
  refine ⟨?_, ?_⟩ <;> (show _ ≤ _; simp only [measQ]; omega)
/-- Two lists of arcs that lead alike, the first ones not longer. -/
inductive ArsLe : List Arc → List Arc → Prop
  | nil : ArsLe [] []
  | cons {a b : Arc} {l m : List Arc} : a.1 = b.1 → a.2.1 = b.2.1 → a.2.2 ≤ b.2.2 → ArsLe l m → ArsLe (a :: l) (b :: m)
theorem ArsLe.append {l m l' m' : List Arc} (h : ArsLe l m) (h' : ArsLe l' m') : ArsLe (l ++ l') (m ++ m') := by
  induction h with
  | nil => exact h'
  | cons a b c _ ih => exact .cons a b c ih
theorem fold_le {p : Nat → Int} : ∀ {l m : List Arc}, ArsLe l m → (∀ a ∈ l, p a.2.1 - p a.1 ≤ a.2.2 ∧ a.2.2 ≤ 1000000 ∧ a.1 ≠ a.2.1) → (∀ a ∈ m, p a.2.1 - p a.1 ≤ a.2.2 ∧ a.2.2 ≤ 1000000 ∧ a.1 ≠ a.2.1) → ∀ S T, TabLe S T → TabOk p 1000000 S → TabOk p 1000000 T → TabLe (l.foldl putT S) (m.foldl putT T)
  | _, _, .nil, _, _, _, _, h, _, _ => h
  | _, _, .cons (a := a) (b := b) e1 e2 hl hr, ha, hb, S, T, h, hS, hT => by
    have a1 := ha a (List.mem_cons_self ..)
    have b1 := hb b (List.mem_cons_self ..)
    have hf : ∀ {X : Nat → Nat → Int}, TabOk p 1000000 X → ∀ i j, X i j ≤ farT := fun hX i j => by
      rcases hX.ent i j with e | e
      · omega
      · unfold farT; omega
    rw [List.foldl_cons, List.foldl_cons]
    exact fold_le hr (fun x hx => ha x (List.mem_cons_of_mem _ hx)) (fun x hx => hb x (List.mem_cons_of_mem _ hx)) _ _
      (put_le h e1 e2 hl (by unfold farT; omega) (hf hS) (hf hT)) (put_ok hS a1.1 a1.2.1 (by unfold farT; omega) a1.2.2) (put_ok hT b1.1 b1.2.1 (by unfold farT; omega) b1.2.2)
theorem arcs_le {hs : List Int} {ps es : List (Int × Int)} (h : MeasOk hs ps es) : ∀ k, ArsLe ((arcsK (measL hs 2 ps es) k).map arcQ) ((arcsK (measL hs 1 ps es) k).map arcQ)
  | 0 => .nil
  | k + 1 => by
    have ih := arcs_le h k
    have el : ∀ part : Int, (measL hs part ps es)[k]? = ((ps.zip es)[k]?).map fun x => measQ hs part x.1 x.2 := fun part => by unfold measL; rw [List.getElem?_map]
    cases hz : (ps.zip es)[k]? with
    | none =>
      have e0 : ∀ part : Int, arcsK (measL hs part ps es) (k + 1) = arcsK (measL hs part ps es) k := fun part => by
        show _ ++ (match (measL hs part ps es)[k]? with | some r => _ | none => []) = _
        rw [el, hz]; simp
      rw [e0, e0]; exact ih
    | some x =>
      have hx := List.mem_of_getElem? hz
      have a2 := h.err x.2 (List.of_mem_zip hx).2
      have e0 : ∀ part : Int, (measL hs part ps es)[k]? = some (measQ hs part x.1 x.2) := fun part => by rw [el, hz]; rfl
      rw [arcsK_succ (e0 2), arcsK_succ (e0 1), List.map_append, List.map_append]
      refine ih.append (.cons rfl rfl ?_ (.cons rfl rfl ?_ .nil))
      · show (measQ hs 2 x.1 x.2).2.2.2 ≤ (measQ hs 1 x.1 x.2).2.2.2
        simp only [measQ]; omega
      · show -(measQ hs 2 x.1 x.2).2.2.1 ≤ -(measQ hs 1 x.1 x.2).2.2.1
        simp only [measQ]; omega
theorem measL_len {hs : List Int} {ps es : List (Int × Int)} (part : Int) : (measL hs part ps es).length = (ps.zip es).length := by unfold measL; rw [List.length_map]
/-- The table of half the errors is nowhere more, and has the same ways. -/
theorem meas_le {hs : List Int} {ps es : List (Int × Int)} (h : MeasOk hs ps es) : TabLe (tabT hs.length (arsOf (measL hs 2 ps es))) (tabT hs.length (arsOf (measL hs 1 ps es))) := by
  have k2 := ars_keep (meas_keep h (.inr rfl))
  have k1 := ars_keep (meas_keep h (.inl rfl))
  have i2 := ars_in (meas_rd h (.inr rfl))
  have i1 := ars_in (meas_rd h (.inl rfl))
  have hl : ArsLe (arsOf (measL hs 2 ps es)) (arsOf (measL hs 1 ps es)) := by
    unfold arsOf
    rw [measL_len, measL_len]
    exact arcs_le h _
  have h0 : TabLe (arcsT (arsOf (measL hs 2 ps es))) (arcsT (arsOf (measL hs 1 ps es))) :=
    fold_le (p := hgtF hs) hl (fun a ha => ⟨k2 a ha, i2 a ha⟩) (fun a ha => ⟨k1 a ha, i1 a ha⟩) _ _ (fun i j => ⟨Int.le_refl _, Iff.rfl⟩) (tab0_ok (by omega)) (tab0_ok (by omega))
  have hk : ∀ k, k ≤ hs.length → TabLe (stgs (arcsT (arsOf (measL hs 2 ps es))) k) (stgs (arcsT (arsOf (measL hs 1 ps es))) k) := by
    intro k
    induction k with
    | zero => exact fun _ => h0
    | succ k ih =>
      intro hk
      have hn := h.n
      exact stg_le (ih (by omega)) (stg_in k2 i2 (by omega)) (stg_in k1 i1 (by omega)) (by unfold farT; omega) (by omega)
  exact hk _ (Nat.le_refl _)
theorem meas_tab {hs : List Int} {ps es : List (Int × Int)} (h : MeasOk hs ps es) {part : Int} (hp : part = 1 ∨ part = 2) : TabOk (hgtF hs) 256000000 (tabT hs.length (arsOf (measL hs part ps es))) :=
  stg_in (ars_keep (meas_keep h hp)) (ars_in (meas_rd h hp)) h.n.2
theorem isfar_true (z : Int) : isfar z = true ↔ z = farT := by unfold isfar farT; simp
theorem whole_alike {n : Nat} {S T : Nat → Nat → Int} (h : TabLe S T) : wholeT n S = wholeT n T := by
  unfold wholeT
  congr 1
  rw [Bool.eq_iff_iff, List.any_eq_true, List.any_eq_true]
  constructor
  · rintro ⟨x, hx, hf⟩
    obtain ⟨j, hj, rfl⟩ := List.mem_map.1 hx
    exact ⟨T 0 j, List.mem_map_of_mem hj, (isfar_true _).2 ((h 0 j).2.1 ((isfar_true _).1 hf))⟩
  · rintro ⟨x, hx, hf⟩
    obtain ⟨j, hj, rfl⟩ := List.mem_map.1 hx
    exact ⟨S 0 j, List.mem_map_of_mem hj, (isfar_true _).2 ((h 0 j).2.2 ((isfar_true _).1 hf))⟩
/-- The true height lies in its range. -/
theorem meas_within {hs : List Int} {ps es : List (Int × Int)} (h : MeasOk hs ps es) (i : Nat) : withinB (hgtF hs i - hgtF hs 0) (-(tabT hs.length (arsOf (measL hs 2 ps es)) i 0)) (tabT hs.length (arsOf (measL hs 2 ps es)) 0 i) = true := by
  have ht := meas_tab h (part := 2) (.inr rfl)
  have c1 := hgt_in h.hgt i
  have c2 := hgt_in h.hgt 0
  refine (withinB_iff _ _ _).2 ⟨?_, ?_⟩
  · rcases ht.ent i 0 with e | e
    · rw [e]; unfold farT; omega
    · omega
  · rcases ht.ent 0 i with e | e
    · rw [e]; unfold farT; omega
    · omega
end Go.Proofs.Ytcggceincmljdaa

end
