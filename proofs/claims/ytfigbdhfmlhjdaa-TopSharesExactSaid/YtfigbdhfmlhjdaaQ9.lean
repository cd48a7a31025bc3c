import Derived.Test.YtfigbdhfmlhjdaaQ1
import Derived.Test.YtfigbdhfmlhjdaaQ4
import Derived.Test.YtfigbdhfmlhjdaaQ8
import Derived.Test.YtfigbdhfmlhjdaaQ6
import Derived.Test.YtfigbdhfmlhjdaaQ7
import Derived.Test.YtfigbdhfmlhjdaaQ5

section
/- Steps from one named world to the next: what a call that only makes memory leaves as it was. -/
namespace Go.Proofs.Ytfigbdhfmlhjdaa
open Go.RowKit

section
variable {w W W1 : World}
theorem step_below (hb : Below W.heap.size W W1) (h : Below w.heap.size w W) : Below w.heap.size w W1 := h.trans (hb.mono h.size)
theorem step_blk {g : Nat} {t : TypeId} {cs : Array Value} (hb : Below W.heap.size W W1) (h : Blk W g t cs) : Blk W1 g t cs := h.below hb h.lt
end

end Go.Proofs.Ytfigbdhfmlhjdaa

end

section
/- The contracts of the points of a tree, and of what asks for a number for each point. -/
namespace Go.Proofs.Ytfigbdhfmlhjdaa
open Go.RowKit

theorem txts_of {ps : List ByteArray} (h : ∀ x ∈ ps, x.size ≤ maxLen) : ∃ xs : List Txt, txts xs = ps := by
  induction ps with
  | nil => exact ⟨[], rfl⟩
  | cons x t ih =>
    obtain ⟨xs, hx⟩ := ih fun y hy => h y (by simp [hy])
    exact ⟨⟨x, h x (by simp)⟩ :: xs, by simp [txts] at *; exact hx⟩

theorem pts_small {l : List Rk} (hfits : ∀ r ∈ l, r.Fits) : ∀ (f : Nat) (s : ByteArray) (ps : List ByteArray), s.size ≤ maxLen → pts l f s = some ps → ∀ x ∈ ps, x.size ≤ maxLen := by
  intro f
  induction f with
  | zero =>
    intro s ps hs hp x hx
    unfold pts at hp
    cases hi : idxOf l s with
    | none => rw [hi] at hp; obtain rfl := Option.some.inj hp; simp at hx; rw [hx]; exact hs
    | some i => rw [hi] at hp; cases hp
  | succ f ih =>
    intro s ps hs hp x hx
    unfold pts at hp
    cases hi : idxOf l s with
    | none => rw [hi] at hp; obtain rfl := Option.some.inj hp; simp at hx; rw [hx]; exact hs
    | some i =>
      rw [hi] at hp
      simp only at hp
      cases hr : l[i]? with
      | none => rw [hr] at hp; cases hp
      | some r =>
        rw [hr] at hp
        simp only at hp
        have hfit := hfits r (List.mem_of_getElem? hr)
        cases ha : pts l f r.left with
        | none => rw [ha] at hp; cases hp
        | some a =>
          cases hb : pts l f r.right with
          | none => rw [ha, hb] at hp; cases hp
          | some b =>
            rw [ha, hb] at hp
            obtain rfl := Option.some.inj hp
            rcases List.mem_append.1 hx with hx | hx
            · exact ih _ _ hfit.left ha x hx
            · exact ih _ _ hfit.right hb x hx

theorem pts_len {l : List Rk} : ∀ (f : Nat) (s : ByteArray) (ps : List ByteArray), pts l f s = some ps → 1 ≤ ps.length ∧ ps.length ≤ 2 ^ f := by
  intro f
  induction f with
  | zero =>
    intro s ps hp
    unfold pts at hp
    cases hi : idxOf l s with
    | none => rw [hi] at hp; obtain rfl := Option.some.inj hp; simp
    | some i => rw [hi] at hp; cases hp
  | succ f ih =>
    intro s ps hp
    have h2 : 2 ^ (f + 1) = 2 ^ f + 2 ^ f := by rw [Nat.pow_succ]; omega
    have h1 : 1 ≤ 2 ^ f := Nat.one_le_two_pow
    unfold pts at hp
    cases hi : idxOf l s with
    | none => rw [hi] at hp; obtain rfl := Option.some.inj hp; simp; omega
    | some i =>
      rw [hi] at hp
      simp only at hp
      cases hr : l[i]? with
      | none => rw [hr] at hp; cases hp
      | some r =>
        rw [hr] at hp
        simp only at hp
        cases ha : pts l f r.left with
        | none => rw [ha] at hp; cases hp
        | some a =>
          cases hb : pts l f r.right with
          | none => rw [ha, hb] at hp; cases hp
          | some b =>
            rw [ha, hb] at hp
            obtain rfl := Option.some.inj hp
            have q1 := ih _ _ ha
            have q2 := ih _ _ hb
            rw [List.length_append]
            omega

theorem own_slice {w : World} {base : Nat} {e : TypeId} {size n : Nat} {v : Value} {xs : List Value} (h : w.ownsRow base e size v n xs) : ∃ A c, v = .slice A n c ∧ n ≤ c := by
  rcases h.2 with ⟨rfl, rfl⟩ | ⟨g, cap, cur, rfl, _, _, hc, _⟩
  · exact ⟨none, 0, rfl, Nat.le_refl _⟩
  · exact ⟨_, cap, rfl, hc⟩

theorem topName_get {l : List Rk} (htop : topOf l < l.length) : ∃ r, l[topOf l]? = some r ∧ topName l = r.name := by
  refine ⟨l[topOf l], List.getElem?_eq_getElem htop, ?_⟩
  unfold topName
  rw [List.getElem?_eq_getElem htop]
  rfl

set_option maxRecDepth 100000 in
set_option maxHeartbeats 4000000 in
theorem points_any (l : List Rk) (hfits : ∀ r ∈ l, r.Fits) (A : Option Addr) (n c tb mb : Nat) (w : World) (hn : n ≤ 1000000) (hT : TreeAt l A n c tb mb (topOf l : Int) w.heap.size w) (htop : topOf l < l.length) (ps : List ByteArray) (hp : ptsOf l = some ps) (hps : ps.length ≤ 1000000) :
    Calls Try.prog 27 #[.pointer (some ⟨tb, 0, none⟩)] w fun e w' => Below w.heap.size w w' ∧ ∃ A' c', e = .returned (.slice A' ps.length c') ∧ w'.ownsRow w.heap.size 9 1 (.slice A' ps.length c') ps.length (strs ps) := by
  obtain ⟨r, hr, hnm⟩ := topName_get htop
  have hfit := hfits r (List.mem_of_getElem? hr)
  unfold ptsOf at hp
  rw [hnm] at hp
  obtain ⟨xs, hxs⟩ := txts_of (pts_small hfits _ _ _ hfit.name hp)
  subst hxs
  have hln := hT.reads.len5
  obtain ⟨T, hTT⟩ : ∃ T, topOf l = T := ⟨_, rfl⟩
  rw [hTT] at hT htop hr
  have htn : T < n := by omega
  obtain ⟨xb, xo, r', rfl, hxb, hr', c0, -, -, -, -⟩ := hT.reads.rk htn
  obtain rfl := Option.some.inj (hr'.symm.trans hr)
  have t0 : w.cell? ⟨tb, 0, none⟩ = some (.slice (some ⟨xb, xo, none⟩) n c) := hT.tree.cell 0
  have t2 : w.cell? ⟨tb, 2, none⟩ = some (.int .i64 (T : Int)) := hT.tree.cell 2
  have htb := hT.tlt
  have hlen : (txts xs).length = xs.length := by simp [txts]
  have hstr : strs (txts xs) = xs.map encT := by simp [strs, txts, encT, Function.comp_def]
  have HC : ∀ w', w' = ((w.drewN 1).alloc (.cells #[.pointer (some ⟨tb, 0, none⟩)] 66)).alloc (.cells #[.string r'.name] 9) →
      Calls Try.prog 51 #[.func (.func 72) #[] #[.pointer (some ⟨w.heap.size, 0, none⟩), .pointer (some ⟨w.heap.size + 1, 0, none⟩)]] w' fun e W' =>
        ∃ x : Option Addr × Nat, e = .returned (.slice x.1 (txts xs).length x.2) ∧ Below w.heap.size w W' ∧ W'.ownsRow w.heap.size 9 1 (.slice x.1 (txts xs).length x.2) (txts xs).length (strs (txts xs)) := by
    have hz : (w.drewN 1).heap.size = w.heap.size := rfl
    rintro w' rfl
    have hb : Below w.heap.size w (((w.drewN 1).alloc (.cells #[.pointer (some ⟨tb, 0, none⟩)] 66)).alloc (.cells #[.string r'.name] 9)) :=
      (Below.alloc (below_drewN (Below.refl _ _) 1) (by simp [hz]) _).alloc (by simp [hz]) _
    have k1 : Blk ((w.drewN 1).alloc (.cells #[.pointer (some ⟨tb, 0, none⟩)] 66)) w.heap.size 66 #[.pointer (some ⟨tb, 0, none⟩)] := Blk.at_ _ rfl _ _
    have k2 : Blk (((w.drewN 1).alloc (.cells #[.pointer (some ⟨tb, 0, none⟩)] 66)).alloc (.cells #[.string r'.name] 9)) (w.heap.size + 1) 9 #[.string r'.name] := Blk.at_ _ (by simp [hz]) _ _
    have hg : ∀ m, SeqStopsK Fence.wide m Try.prog _ _ _ _ _ _ _ _ := fun m => below_stops l hfits _ n c tb mb (T : Int) _ hn w.heap.size (w.heap.size + 1) l.length r'.name xs hfit.name hp m _
      (by simp [hz]; omega) (by simp [hz]) (Nat.le_refl _) ((k1.alloc _).cell 0) (k2.cell 0) ((hT.below hb).more hb.size)
    refine (collect_any 72 _ (enters_of Try.func72 (by kernel_rfl) rfl) xs (by omega) _ hg).mono ?_
    rintro e W' ⟨v, rfl, ho, hB⟩
    rw [← hlen, ← hstr] at ho
    obtain ⟨A', c', rfl, -⟩ := own_slice ho
    exact ⟨(A', c'), rfl, hb.trans (hB.mono hb.size), own_base hb.size ho⟩
  have HCC := Lib.hid HC
  clear HC hT hp hstr
  go_enter Try.func27, Try.ntmps27
  go_wp2
  have hPOST : (∀ (g : Option (Option Addr × Nat)) (f : Nat → Bool) (w' : World) (e : Ending) (w'' : World), (Below w.heap.size w w' ∧ (f 12 = false → w' = w.drewN 1) ∧ (f 12 = true → f 13 = false → w' = ((w.drewN 1).alloc (.cells #[.pointer (some ⟨tb, 0, none⟩)] 66)).alloc (.cells #[.string r'.name] 9)) ∧ (∀ x, g = some x → w'.ownsRow w.heap.size 9 1 (.slice x.1 (txts xs).length x.2) (txts xs).length (strs (txts xs)))) →
      f 12 = false → e = .returned (.func (.func 72) #[] #[.pointer (some ⟨w'.heap.size, 0, none⟩), .pointer (some ⟨w'.heap.size + 1, 0, none⟩)]) → w'' = (w'.alloc (.cells #[.pointer (some ⟨tb, 0, none⟩)] 66)).alloc (.cells #[.string r'.name] 9) →
      e = .returned (.func (.func 72) #[] #[.pointer (some ⟨w.heap.size, 0, none⟩), .pointer (some ⟨w.heap.size + 1, 0, none⟩)]) ∧ (Below w.heap.size w w'' ∧ (Fx.add f 12 12 = false → w'' = w.drewN 1) ∧ (Fx.add f 12 12 = true → Fx.add f 12 13 = false → w'' = ((w.drewN 1).alloc (.cells #[.pointer (some ⟨tb, 0, none⟩)] 66)).alloc (.cells #[.string r'.name] 9)) ∧ (∀ x, g = some x → w''.ownsRow w.heap.size 9 1 (.slice x.1 (txts xs).length x.2) (txts xs).length (strs (txts xs))))) := by
    rintro g f w' e w'' ⟨hb, h1, h2, h3⟩ hf he hw
    obtain rfl := h1 hf
    subst hw
    refine ⟨he, ?_, fun h => by simp [Fx.add] at h, fun _ _ => rfl, fun x hx => ((h3 x hx).alloc _).alloc _⟩
    exact (Below.alloc hb hb.size _).alloc (by have := hb.size; first | (simp; done) | (simp; omega)) _
  have HPOST := Lib.hid hPOST
  clear hPOST hlen
  refine Fx.regionG (fun _ g f w' => Below w.heap.size w w' ∧ (f 12 = false → w' = w.drewN 1) ∧ (f 12 = true → f 13 = false → w' = ((w.drewN 1).alloc (.cells #[.pointer (some ⟨tb, 0, none⟩)] 66)).alloc (.cells #[.string r'.name] 9)) ∧ (∀ x, g = some x → w'.ownsRow w.heap.size 9 1 (.slice x.1 (txts xs).length x.2) (txts xs).length (strs (txts xs)))) (fun x : Option Addr × Nat => .slice x.1 (txts xs).length x.2) 13 (by kernel_rfl) (by kernel_rfl) (by kernel_rfl) ?_ ?_
  · intro f hf0
    exact ⟨below_drewN (Below.refl _ _) 1, fun _ => rfl, fun h => (by rw [hf0 12] at h; cases h), fun x h => by cases h⟩
  repeat (first
    | (refine Fx.skipE_ (by rfl) (fun g f w h => h) ?_; simp only [Act.put, List.setIfInBounds_toArray, List.set_cons_zero, List.set_cons_succ])
    | (refine Fx.valE_ ?_ (by rfl) ?_ (fun g f w h => h) ?_
       rotate_left
       · intro g f w' hD hk
         obtain ⟨hb, h1, h2, h3⟩ := id hD
         have y0 := (hb.cell (p := ⟨tb, 0, none⟩) htb).trans t0
         have y2 := (hb.cell (p := ⟨tb, 2, none⟩) htb).trans t2
         have yx := (hb.cell (p := ⟨xb, xo + T * 5, none⟩) (by assumption)).trans c0
         clear hk hD hb h1 h2 h3
         go_simp
         try rfl
       simp only [Act.put, List.setIfInBounds_toArray, List.set_cons_zero, List.set_cons_succ]))
  refine Fx.callvE_ (.func (.func 72) #[] #[.pointer (some ⟨w.heap.size, 0, none⟩), .pointer (some ⟨w.heap.size + 1, 0, none⟩)]) ?_ ?_ (by rfl) ?_ ?_ ?_
  rotate_left 2
  · intro w'
    go_simp
    refine ⟨?_, ?_⟩ <;> rfl
  · intro g f w' hD hk
    exact (below_any (some ⟨tb, 0, none⟩) r'.name w').mono fun e w'' ⟨he, hw⟩ => HPOST.out g f w' e w'' hD hk.1 he hw
  simp only [Act.put, List.setIfInBounds_toArray, List.set_cons_zero, List.set_cons_succ]
  repeat (first
    | (refine Fx.skipE_ (by rfl) (fun g f w h => h) ?_; simp only [Act.put, List.setIfInBounds_toArray, List.set_cons_zero, List.set_cons_succ])
    | (refine Fx.valE_ ?_ (by rfl) ?_ (fun g f w h => h) ?_
       rotate_left
       · intro g f w' hD hk
         obtain ⟨hb, h1, h2, h3⟩ := id hD
         have y0 := (hb.cell (p := ⟨tb, 0, none⟩) htb).trans t0
         have y2 := (hb.cell (p := ⟨tb, 2, none⟩) htb).trans t2
         have yx := (hb.cell (p := ⟨xb, xo + T * 5, none⟩) (by assumption)).trans c0
         clear hk hD hb h1 h2 h3
         go_simp
         try rfl
       simp only [Act.put, List.setIfInBounds_toArray, List.set_cons_zero, List.set_cons_succ]))
  refine Fx.callE_ ?_ ?_ (by rfl) (by rfl) ?_ ?_ ?_
  rotate_left 2
  · intro w'
    go_simp
    refine ⟨?_, ?_⟩ <;> rfl
  · intro f w' hD hk
    exact (HCC.out w' (hD.2.2.1 (hk.2.2.1 12 (by kernel_rfl)) hk.1)).mono fun e w'' ⟨x, he, h1, h2⟩ => ⟨x, he, h1, fun h => (by simp [Fx.add] at h; exact absurd (hk.2.2.1 12 (by kernel_rfl)) (by simp [h])), fun _ h => (by simp [Fx.add] at h), fun y hy => by cases hy; exact h2⟩
  intro x
  simp only [Act.put, List.setIfInBounds_toArray, List.set_cons_zero, List.set_cons_succ]
  repeat (first
    | (refine Fx.skip_ (by rfl) (fun f w h => h) ?_; simp only [Act.put, List.setIfInBounds_toArray, List.set_cons_zero, List.set_cons_succ])
    | (refine Fx.val_ ?_ (by rfl) ?_ (fun f w h => h) ?_
       rotate_left
       · intro f w' hD hk
         obtain ⟨hb, h1, h2, h3⟩ := id hD
         have y0 := (hb.cell (p := ⟨tb, 0, none⟩) htb).trans t0
         have y2 := (hb.cell (p := ⟨tb, 2, none⟩) htb).trans t2
         have yx := (hb.cell (p := ⟨xb, xo + T * 5, none⟩) (by assumption)).trans c0
         clear hk hD hb h1 h2 h3
         go_simp
         try rfl
       simp only [Act.put, List.setIfInBounds_toArray, List.set_cons_zero, List.set_cons_succ]))
  refine Fx.nil_ ?_
  intro f w1 hall hD
  obtain ⟨hb, h1, h2, h3⟩ := hD
  try clear hall
  have ho := h3 x rfl
  clear h1 h2 h3
  go_wp2
  go_ret
  exact ⟨hb, x.1, x.2, rfl, ho⟩

theorem TreeAt.of {l : List Rk} {A : Option Addr} {n c N tb mb : Nat} {top : Int} {w : World} (hx : Reads w N 5 A n (rkCells l)) (hN : N ≤ w.heap.size) (ht : Blk w tb 100 #[.slice A n c, .map (some mb), .int .i64 top]) (hm : MapIs Try.prog 9 w mb n (idxM l)) :
    TreeAt l A n c tb mb top w.heap.size w := ⟨hx.more hN, ht, ht.lt, hm, hm.lt⟩

def PointsPost (l : List Rk) (base : Nat) (w : World) (e : Ending) (w' : World) : Prop :=
  Below w.heap.size w w' ∧ (openErr l ≠ 0 → e = .returned (.tuple #[.slice none 0 0, .int .i64 (openErr l)])) ∧
  (openErr l = 0 → ∀ ps, ptsOf l = some ps → ∃ A c, e = .returned (.tuple #[.slice A ps.length c, .int .i64 0]) ∧ w'.ownsRow base 9 1 (.slice A ps.length c) ps.length (strs ps))




end Go.Proofs.Ytfigbdhfmlhjdaa

end

section
/- The plain law of shares: the points of a tree are different from each other. -/
namespace Go.Proofs.Ytfigbdhfmlhjdaa
open Go.RowKit

theorem pts_up {l : List Rk} (hn : (borneAll l).Nodup) : ∀ (f : Nat) (s : ByteArray) (ps : List ByteArray), pts l f s = some ps → ∀ x ∈ ps, ∃ d, upN l d x = some s := by
  intro f
  induction f with
  | zero =>
    intro s ps hp x hx
    unfold pts at hp
    cases hi : idxOf l s with
    | none => rw [hi] at hp; obtain rfl := Option.some.inj hp; simp at hx; exact ⟨0, by rw [hx]; rfl⟩
    | some i => rw [hi] at hp; cases hp
  | succ f ih =>
    intro s ps hp x hx
    unfold pts at hp
    cases hi : idxOf l s with
    | none => rw [hi] at hp; obtain rfl := Option.some.inj hp; simp at hx; exact ⟨0, by rw [hx]; rfl⟩
    | some i =>
      obtain ⟨r0, hr0, hs0⟩ := idx_get hi
      rw [hi] at hp
      simp only at hp
      cases hr : l[i]? with
      | none => rw [hr] at hp; cases hp
      | some r =>
        rw [hr] at hp
        simp only at hp
        obtain rfl := Option.some.inj (hr0.symm.trans hr)
        cases ha : pts l f r0.left with
        | none => rw [ha] at hp; cases hp
        | some a =>
          cases hb : pts l f r0.right with
          | none => rw [ha, hb] at hp; cases hp
          | some b =>
            rw [ha, hb] at hp
            obtain rfl := Option.some.inj hp
            rcases List.mem_append.1 hx with hx | hx
            · obtain ⟨d, hd⟩ := ih _ _ ha x hx
              refine ⟨d + 1, ?_⟩
              show (upN l d x).bind (upOf l) = _
              rw [hd, ← hs0]
              exact up_of_child hn hr (.inl rfl)
            · obtain ⟨d, hd⟩ := ih _ _ hb x hx
              refine ⟨d + 1, ?_⟩
              show (upN l d x).bind (upOf l) = _
              rw [hd, ← hs0]
              exact up_of_child hn hr (.inr rfl)

theorem borne_ne {l : List Rk} (hn : (borneAll l).Nodup) {i : Nat} {r : Rk} (hr : l[i]? = some r) : r.left ≠ r.right := by
  intro e
  induction l generalizing i with
  | nil => simp at hr
  | cons x l ih =>
    have e2 : borneAll (x :: l) = [x.left, x.right] ++ borneAll l := rfl
    rw [e2, List.nodup_append] at hn
    cases i with
    | zero => simp at hr; subst hr; have := hn.1; simp at this; exact this e
    | succ i => exact ih hn.2.1 (by simpa using hr)

theorem pts_nodup {l : List Rk} (hn : (borneAll l).Nodup) (hc : l.any (fun r => climbs l (l.length + 1) r.name) = false) : ∀ (f : Nat) (s : ByteArray) (ps : List ByteArray), pts l f s = some ps → ps.Nodup := by
  intro f
  induction f with
  | zero =>
    intro s ps hp
    unfold pts at hp
    cases hi : idxOf l s with
    | none => rw [hi] at hp; obtain rfl := Option.some.inj hp; simp
    | some i => rw [hi] at hp; cases hp
  | succ f ih =>
    intro s ps hp
    unfold pts at hp
    cases hi : idxOf l s with
    | none => rw [hi] at hp; obtain rfl := Option.some.inj hp; simp
    | some i =>
      rw [hi] at hp
      simp only at hp
      cases hr : l[i]? with
      | none => rw [hr] at hp; cases hp
      | some r =>
        rw [hr] at hp
        simp only at hp
        cases ha : pts l f r.left with
        | none => rw [ha] at hp; cases hp
        | some a =>
          cases hb : pts l f r.right with
          | none => rw [ha, hb] at hp; cases hp
          | some b =>
            rw [ha, hb] at hp
            obtain rfl := Option.some.inj hp
            refine List.nodup_append.2 ⟨ih _ _ ha, ih _ _ hb, fun x hx y hy => ?_⟩
            rintro rfl
            have hu1 : upN l 1 r.left = some r.name := up_of_child hn hr (.inl rfl)
            have hu2 : upN l 1 r.right = some r.name := up_of_child hn hr (.inr rfl)
            have hno : ∀ k, upN l (k + 1) r.name ≠ some r.name := fun k hk => by
              have := circ_yes (List.mem_of_getElem? hr) ⟨k + 1, by omega, Nat.le_refl _, hk⟩
              rw [hc] at this
              cases this
            -- from one side up to the other: round
            have key : ∀ (p q : ByteArray) (d1 k : Nat), upN l d1 x = some p → upN l (d1 + k) x = some q → upN l 1 p = some r.name → upN l 1 q = some r.name → p ≠ q → False := by
              intro p q d1 k h1 h2 u1 u2 hne
              rw [upN_add l d1 k x p h1] at h2
              cases k with
              | zero => exact hne (Option.some.inj h2)
              | succ k =>
                rw [show k + 1 = 1 + k by omega, upN_add l 1 k p _ u1] at h2
                refine hno k ?_
                rw [upN_add l k 1 _ q h2]
                exact u2
            obtain ⟨d1, h1⟩ := pts_up hn _ _ _ ha x hx
            obtain ⟨d2, h2⟩ := pts_up hn _ _ _ hb x hy
            have hne := borne_ne hn hr
            rcases Nat.le_total d1 d2 with h | h
            · exact key _ _ d1 (d2 - d1) h1 (by rw [show d1 + (d2 - d1) = d2 by omega]; exact h2) hu1 hu2 hne
            · exact key _ _ d2 (d1 - d2) h2 (by rw [show d2 + (d1 - d2) = d1 by omega]; exact h1) hu2 hu1 (Ne.symm hne)

theorem points_nodup {l : List Rk} (h : openErr l = 0) {ps : List ByteArray} (hp : ptsOf l = some ps) : ps.Nodup := by
  obtain ⟨-, -, -, hn, hc, -⟩ := open_zero h
  exact pts_nodup hn hc _ _ _ hp

theorem cells2_set (l : List (Int × Int)) : ∀ (i : Nat) (a b : Int), ((cells2 l).set (i * 2) (.int .i64 a)).set (i * 2 + 1) (.int .i64 b) = cells2 (l.set i (a, b)) := by
  induction l with
  | nil => intro i a b; simp [cells2]
  | cons p l ih =>
    intro i a b
    have e : cells2 (p :: l) = .int .i64 p.1 :: .int .i64 p.2 :: cells2 l := rfl
    cases i with
    | zero => rfl
    | succ i =>
      rw [e, show (i + 1) * 2 = i * 2 + 1 + 1 by omega]
      simp only [List.set_cons_succ]
      rw [ih]
      rfl

theorem set_mid {α : Type} (o1 om o2 : List α) (x : α) (h : om.length = 1) : (o1 ++ om ++ o2).set o1.length x = o1 ++ [x] ++ o2 := by
  match om, h with
  | [y], _ => rw [List.append_assoc, List.set_append_right _ _ (Nat.le_refl _), Nat.sub_self]; simp

/-- A list cut in three. -/
theorem cut3 {α : Type} (zs : List α) (a b : Nat) : zs = zs.take a ++ (zs.drop a).take b ++ zs.drop (a + b) := by
  rw [List.append_assoc, ← List.drop_drop, List.take_append_drop, List.take_append_drop]

end Go.Proofs.Ytfigbdhfmlhjdaa

end

section
/- Contracts of the reference's list of borne names, of its check of a tree, of its top. -/
namespace Go.Proofs.Ytfigbdhfmlhjdaa
open Go.RowKit

theorem info_str2 : (Try.prog.info? 9).map (fun i => (i.zero, i.size, i.bytes)) = some (some (.string ByteArray.empty), 1, 16) := by kernel_rfl

theorem own_reads_cap {w : World} {base n size : Nat} {e : TypeId} {v : Value} {xs : List Value} (h : w.ownsRow base e size v n xs) : ∃ A c, v = .slice A n c ∧ n ≤ c ∧ Reads w w.heap.size size A n xs := by
  obtain ⟨A, c, rfl, hr⟩ := own_reads h
  refine ⟨A, c, rfl, ?_, hr⟩
  rcases h.2 with ⟨h1, h2⟩ | ⟨g, cap, cur, h1, _, _, hc, _⟩
  · injection h1 with _ h3 h4; omega
  · injection h1 with _ h3 h4; omega
theorem borne_succ {l : List Rk} {k : Nat} {r : Rk} (h : l[k]? = some r) : borneAll (l.take (k + 1)) = borneAll (l.take k) ++ [r.left, r.right] := by
  unfold borneAll
  rw [List.take_add_one, h]
  simp
set_option maxRecDepth 100000 in
set_option maxHeartbeats 1000000 in
theorem borne_any (l : List Rk) (A : Option Addr) (n c N : Nat) (w : World) (hx : Reads w N 5 A n (rkCells l)) (hN : N ≤ w.heap.size) (hn : n ≤ 100000) :
    Calls Try.prog 32 #[.slice A n c] w fun e w' => Below w.heap.size w w' ∧ ∃ A' c', e = .returned (.slice A' (2 * n) c') ∧ 2 * n ≤ c' ∧ Reads w' w'.heap.size 1 A' (2 * n) (strs (borneAll l)) := by
  obtain ⟨i0, hi0, hz0, hz1, hz2⟩ := info_parts info_str2
  have hxl := Lib.hid hx.len5
  have HX := Lib.hid hx
  have HI0 := Lib.hid hi0
  have HZ0 := Lib.hid hz0
  have HZ1 := Lib.hid hz1
  have HZ2 := Lib.hid hz2
  clear hx hi0 hz0 hz1 hz2
  go_enter Try.func32, Try.ntmps32
  go_wp2
  go_loopw [3, 4] (fun o i wr => ∃ k : Nat, k ≤ n ∧ i = .int .i64 k ∧ wr.ownsRow w.heap.size 9 1 o (2 * k) (strs (borneAll (l.take k))) ∧ Below w.heap.size w wr) (fun _ i _ => n - (intOf i).toNat)
  case atStart => exact ⟨0, by omega, rfl, World.ownsRow_nil _ _ _ _, Below.refl _ _⟩
  case round =>
    obtain ⟨k, hk, rfl, ho, hb⟩ := hrel
    have HO := Lib.hid ho
    have HB := Lib.hid hb
    clear ho hb
    by_cases hlt : k < n
    · obtain ⟨xb, xo, r, rfl, hxb, hr, -, c1, c2, -, -⟩ := HX.out.rk hlt
      have HR := Lib.hid hr
      clear hr
      rw [← HB.out.cell (p := ⟨xb, xo + k * 5 + 1, none⟩) (by simp; omega)] at c1
      rw [← HB.out.cell (p := ⟨xb, xo + k * 5 + 2, none⟩) (by simp; omega)] at c2
      obtain ⟨W0, hW0⟩ : ∃ W0, W0 = wr.drewN 1 := ⟨_, rfl⟩
      obtain ⟨W1, hW1⟩ : ∃ W1, W1 = W0.alloc (.cells #[.string r.left, .string r.right] 9) := ⟨_, rfl⟩
      have d1 : W0.cell? ⟨xb, xo + k * 5 + 1, none⟩ = some (.string r.left) := by rw [hW0]; exact c1
      have d2 : W0.cell? ⟨xb, xo + k * 5 + 2, none⟩ = some (.string r.right) := by rw [hW0]; exact c2
      have ho1 : W1.ownsRow w.heap.size 9 1 u3 (2 * k) (strs (borneAll (l.take k))) := by rw [hW1, hW0]; exact (own_drewN HO.out 1).alloc _
      have hnb : Blk W1 W0.heap.size 9 #[.string r.left, .string r.right] := by rw [hW1]; exact Blk.new _ _ _
      have hs0 : W0.heap.size = wr.heap.size := by rw [hW0]; rfl
      have hs1 : W1.heap.size = wr.heap.size + 1 := by rw [hW1, World.size_alloc, hs0]
      have hbs := HB.out.size
      have hb1 : Below w.heap.size w W1 := by rw [hW1, hW0]; exact (below_drewN HB.out 1).alloc hbs _
      obtain ⟨v', W2, hrun, o2, hg2, hrow⟩ := run_append_any (P := Try.prog) W1 w.heap.size 38 38 9 i0 _ 1 16 Try.underlying38 HI0.out HZ0.out HZ1.out HZ2.out rfl (by omega) u3 (2 * k) _ ho1 W1.heap.size (some ⟨W0.heap.size, 0, none⟩) 2 2 [.string r.left, .string r.right] (Blk.reads hnb rfl) (by simp [Value.oneCell']) (by unfold maxLen; omega) (by omega) (by omega)
      have HRUN := Lib.hid hrun
      have HO2 : Hid (W2.ownsRow w.heap.size 9 1 v' (2 * (k + 1)) (strs (borneAll (l.take (k + 1))))) := by
        show World.ownsRow _ _ _ _ _ _ _
        rw [borne_succ HR.out, show 2 * (k + 1) = 2 * k + 2 by omega]
        unfold strs at o2 ⊢
        rw [List.map_append]
        exact o2
      have HB2 := Lib.hid (hb1.grown hg2 (by omega) (fun g hg => (own_lt ho1 hg).1))
      clear hrun o2 hg2 hrow hnb ho1 hb1 c1 c2
      go_wp2
      refine Fx.region (fun f w' => (w' = if f 12 then W2 else if f 11 then W1 else W0) ∧ True) (by kernel_rfl) (by kernel_rfl) ?_ ?_
      · intro f hf0
        rw [hf0 12, hf0 11]; exact ⟨hW0.symm, trivial⟩
      repeat (first
        | (refine Fx.skip_ (by rfl) (fun f w h => h) ?_; simp only [Act.put, List.setIfInBounds_toArray, List.set_cons_zero, List.set_cons_succ])
        | (refine Fx.val_ ?_ (by rfl) ?_ (fun f w h => h) ?_
           rotate_left
           · intro f w' hD hk
             obtain ⟨jw, _⟩ := id hD
             clear hk hD jw
             go_simp
             try rfl
           simp only [Act.put, List.setIfInBounds_toArray, List.set_cons_zero, List.set_cons_succ]))
      refine Fx.val_ ?_ (by rfl) ?_ (fun f w h => h) ?_
      rotate_left
      · intro f w' hD hk
        obtain ⟨jw, _⟩ := id hD
        have hb_ : f 11 = false := hk.2.1 11 (by kernel_rfl)
        have ha_ : f 12 = false := hk.un 12 11 (by kernel_rfl) hb_
        rw [hb_, ha_] at jw
        simp only [Bool.false_eq_true, if_false] at jw
        have e1 : w'.cell? ⟨xb, xo + k * 5 + 1, none⟩ = some (.string r.left) := by rw [jw]; exact d1
        clear hk hD jw hb_ ha_
        go_simp
        try rfl
      simp only [Act.put, List.setIfInBounds_toArray, List.set_cons_zero, List.set_cons_succ]
      repeat (first
        | (refine Fx.skip_ (by rfl) (fun f w h => h) ?_; simp only [Act.put, List.setIfInBounds_toArray, List.set_cons_zero, List.set_cons_succ])
        | (refine Fx.val_ ?_ (by rfl) ?_ (fun f w h => h) ?_
           rotate_left
           · intro f w' hD hk
             obtain ⟨jw, _⟩ := id hD
             clear hk hD jw
             go_simp
             try rfl
           simp only [Act.put, List.setIfInBounds_toArray, List.set_cons_zero, List.set_cons_succ]))
      refine Fx.val_ ?_ (by rfl) ?_ (fun f w h => h) ?_
      rotate_left
      · intro f w' hD hk
        obtain ⟨jw, _⟩ := id hD
        have hb_ : f 11 = false := hk.2.1 11 (by kernel_rfl)
        have ha_ : f 12 = false := hk.un 12 11 (by kernel_rfl) hb_
        rw [hb_, ha_] at jw
        simp only [Bool.false_eq_true, if_false] at jw
        have e1 : w'.cell? ⟨xb, xo + k * 5 + 2, none⟩ = some (.string r.right) := by rw [jw]; exact d2
        clear hk hD jw hb_ ha_
        go_simp
        try rfl
      simp only [Act.put, List.setIfInBounds_toArray, List.set_cons_zero, List.set_cons_succ]
      refine Fx.eff_ (.slice (some ⟨W0.heap.size, 0, none⟩) 2 2) (fun w' => W1) (by rfl) ?_ ?_ ?_
      · intro f w' hD hk
        obtain ⟨jw, _⟩ := id hD
        have hb_ : f 11 = false := hk.1
        have ha_ : f 12 = false := hk.un 12 11 (by kernel_rfl) hb_
        rw [hb_, ha_] at jw
        simp only [Bool.false_eq_true, if_false] at jw
        subst jw
        clear hk hD
        rw [hW1]
        go_simp
      · intro f w' hD hk
        obtain ⟨jw, _⟩ := id hD
        have hb_ : f 11 = false := hk.1
        have ha_ : f 12 = false := hk.un 12 11 (by kernel_rfl) hb_
        rw [hb_, ha_] at jw
        simp only [Bool.false_eq_true, if_false] at jw
        subst jw
        exact ⟨by simp [Fx.add, ha_], trivial⟩
      simp only [Act.put, List.setIfInBounds_toArray, List.set_cons_zero, List.set_cons_succ]
      refine Fx.eff_ (v') (fun w' => W2) (by rfl) ?_ ?_ ?_
      · intro f w' hD hk
        obtain ⟨jw, _⟩ := id hD
        have hb_ : f 11 = true := hk.2.2.1 11 (by kernel_rfl)
        have ha_ : f 12 = false := hk.1
        rw [hb_, ha_] at jw
        simp only [Bool.false_eq_true, if_false, if_true] at jw
        subst jw
        exact exec_append (.tmp 11) (.tmp 22) _ rfl HRUN.out
      · intro f w' hD hk
        obtain ⟨jw, _⟩ := id hD
        have hb_ : f 11 = true := hk.2.2.1 11 (by kernel_rfl)
        have ha_ : f 12 = false := hk.1
        rw [hb_, ha_] at jw
        simp only [Bool.false_eq_true, if_false, if_true] at jw
        subst jw
        exact ⟨by simp [Fx.add], trivial⟩
      simp only [Act.put, List.setIfInBounds_toArray, List.set_cons_zero, List.set_cons_succ]
      repeat (first
        | (refine Fx.skip_ (by rfl) (fun f w h => h) ?_; simp only [Act.put, List.setIfInBounds_toArray, List.set_cons_zero, List.set_cons_succ])
        | (refine Fx.val_ ?_ (by rfl) ?_ (fun f w h => h) ?_
           rotate_left
           · intro f w' hD hk
             obtain ⟨jw, _⟩ := id hD
             clear hk hD jw
             go_simp
             try rfl
           simp only [Act.put, List.setIfInBounds_toArray, List.set_cons_zero, List.set_cons_succ]))
      refine Fx.nil_ ?_
      intro f w1 hall hD
      have hf12 := hall 12 (by simp)
      obtain ⟨jw, _⟩ := hD
      simp only [hf12, if_true] at *
      subst jw
      try clear hall
      go_wp2
      go_roundw
      case rel => exact ⟨k + 1, by omega, by go_num, HO2.out, HB2.out⟩
      case measure => simp [intOf]; omega
    · have hkn : k = n := by omega
      have ho := HO.out
      rw [hkn, List.take_of_length_le (by rw [hxl.out]; omega)] at ho
      obtain ⟨A', c', rfl, hcc, hr'⟩ := own_reads_cap ho
      have HRR := Lib.hid hr'
      clear hkn ho hr'
      go_wp2
      go_ret
      exact ⟨HB.out, A', c', rfl, hcc, HRR.out⟩

end Go.Proofs.Ytfigbdhfmlhjdaa

end
