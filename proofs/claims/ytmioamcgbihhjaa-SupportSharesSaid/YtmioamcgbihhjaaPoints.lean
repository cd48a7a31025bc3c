/- The contracts of the points of a tree, and of what asks for a number for each point. -/
import Derived.Test.YtmioamcgbihhjaaCollect
import Derived.Test.YtmioamcgbihhjaaCopy
import Derived.Test.YtmioamcgbihhjaaStep
import Derived.Test.YtmioamcgbihhjaaRTree1
namespace Go.Proofs.Ytmioamcgbihhjaa
open Go.RowKit

theorem txts_of {ps : List ByteArray} (h : ∀ x ∈ ps, x.size ≤ maxLen) : ∃ xs : List Txt, txts xs = ps := by
  induction ps with
  | nil => exact ⟨[], rfl⟩
  | cons x t ih =>
    obtain ⟨xs, hx⟩ := ih fun y hy => h y (by simp [hy])
    exact ⟨⟨x, h x (by simp)⟩ :: xs, by simp [txts] at *; exact hx⟩

theorem pts_small {l : List Rk} (hfits : ∀ r ∈ l, r.Fits) : ∀ (f : Nat) (s : ByteArray) (ps : List ByteArray), s.size ≤ maxLen → pts l f s = some ps → ∀ x ∈ ps, x.size ≤ maxLen := by
  intro f
  induction f with
  | zero =>
    intro s ps hs hp x hx
    unfold pts at hp
    cases hi : idxOf l s with
    | none => rw [hi] at hp; obtain rfl := Option.some.inj hp; simp at hx; rw [hx]; exact hs
    | some i => rw [hi] at hp; cases hp
  | succ f ih =>
    intro s ps hs hp x hx
    unfold pts at hp
    cases hi : idxOf l s with
    | none => rw [hi] at hp; obtain rfl := Option.some.inj hp; simp at hx; rw [hx]; exact hs
    | some i =>
      rw [hi] at hp
      simp only at hp
      cases hr : l[i]? with
      | none => rw [hr] at hp; cases hp
      | some r =>
        rw [hr] at hp
        simp only at hp
        have hfit := hfits r (List.mem_of_getElem? hr)
        cases ha : pts l f r.left with
        | none => rw [ha] at hp; cases hp
        | some a =>
          cases hb : pts l f r.right with
          | none => rw [ha, hb] at hp; cases hp
          | some b =>
            rw [ha, hb] at hp
            obtain rfl := Option.some.inj hp
            rcases List.mem_append.1 hx with hx | hx
            · exact ih _ _ hfit.left ha x hx
            · exact ih _ _ hfit.right hb x hx

theorem pts_len {l : List Rk} : ∀ (f : Nat) (s : ByteArray) (ps : List ByteArray), pts l f s = some ps → 1 ≤ ps.length ∧ ps.length ≤ 2 ^ f := by
  intro f
  induction f with
  | zero =>
    intro s ps hp
    unfold pts at hp
    cases hi : idxOf l s with
    | none => rw [hi] at hp; obtain rfl := Option.some.inj hp; simp
    | some i => rw [hi] at hp; cases hp
  | succ f ih =>
    intro s ps hp
    have h2 : 2 ^ (f + 1) = 2 ^ f + 2 ^ f := by rw [Nat.pow_succ]; omega
    have h1 : 1 ≤ 2 ^ f := Nat.one_le_two_pow
    unfold pts at hp
    cases hi : idxOf l s with
    | none => rw [hi] at hp; obtain rfl := Option.some.inj hp; simp; omega
    | some i =>
      rw [hi] at hp
      simp only at hp
      cases hr : l[i]? with
      | none => rw [hr] at hp; cases hp
      | some r =>
        rw [hr] at hp
        simp only at hp
        cases ha : pts l f r.left with
        | none => rw [ha] at hp; cases hp
        | some a =>
          cases hb : pts l f r.right with
          | none => rw [ha, hb] at hp; cases hp
          | some b =>
            rw [ha, hb] at hp
            obtain rfl := Option.some.inj hp
            have q1 := ih _ _ ha
            have q2 := ih _ _ hb
            rw [List.length_append]
            omega

theorem own_slice {w : World} {base : Nat} {e : TypeId} {size n : Nat} {v : Value} {xs : List Value} (h : w.ownsRow base e size v n xs) : ∃ A c, v = .slice A n c ∧ n ≤ c := by
  rcases h.2 with ⟨rfl, rfl⟩ | ⟨g, cap, cur, rfl, _, _, hc, _⟩
  · exact ⟨none, 0, rfl, Nat.le_refl _⟩
  · exact ⟨_, cap, rfl, hc⟩

theorem topName_get {l : List Rk} (htop : topOf l < l.length) : ∃ r, l[topOf l]? = some r ∧ topName l = r.name := by
  refine ⟨l[topOf l], List.getElem?_eq_getElem htop, ?_⟩
  unfold topName
  rw [List.getElem?_eq_getElem htop]
  rfl

set_option maxRecDepth 100000 in
set_option maxHeartbeats 4000000 in
theorem points_any (l : List Rk) (hfits : ∀ r ∈ l, r.Fits) (A : Option Addr) (n c tb mb : Nat) (w : World) (hn : n ≤ 1000000) (hT : TreeAt l A n c tb mb (topOf l : Int) w.heap.size w) (htop : topOf l < l.length) (ps : List ByteArray) (hp : ptsOf l = some ps) (hps : ps.length ≤ 1000000) :
    Calls Try.prog 91 #[.pointer (some ⟨tb, 0, none⟩)] w fun e w' => Below w.heap.size w w' ∧ ∃ A' c', e = .returned (.slice A' ps.length c') ∧ w'.ownsRow w.heap.size 9 1 (.slice A' ps.length c') ps.length (strs ps) := by
  obtain ⟨r, hr, hnm⟩ := topName_get htop
  have hfit := hfits r (List.mem_of_getElem? hr)
  unfold ptsOf at hp
  rw [hnm] at hp
  obtain ⟨xs, hxs⟩ := txts_of (pts_small hfits _ _ _ hfit.name hp)
  subst hxs
  have hln := hT.reads.len5
  obtain ⟨T, hTT⟩ : ∃ T, topOf l = T := ⟨_, rfl⟩
  rw [hTT] at hT htop hr
  have htn : T < n := by omega
  obtain ⟨xb, xo, r', rfl, hxb, hr', c0, -, -, -, -⟩ := hT.reads.rk htn
  obtain rfl := Option.some.inj (hr'.symm.trans hr)
  have t0 : w.cell? ⟨tb, 0, none⟩ = some (.slice (some ⟨xb, xo, none⟩) n c) := hT.tree.cell 0
  have t2 : w.cell? ⟨tb, 2, none⟩ = some (.int .i64 (T : Int)) := hT.tree.cell 2
  have htb := hT.tlt
  have hlen : (txts xs).length = xs.length := by simp [txts]
  have hstr : strs (txts xs) = xs.map encT := by simp [strs, txts, encT, Function.comp_def]
  have HC : ∀ w', w' = ((w.drewN 1).alloc (.cells #[.pointer (some ⟨tb, 0, none⟩)] 133)).alloc (.cells #[.string r'.name] 9) →
      Calls Try.prog 122 #[.func (.func 133) #[] #[.pointer (some ⟨w.heap.size, 0, none⟩), .pointer (some ⟨w.heap.size + 1, 0, none⟩)]] w' fun e W' =>
        ∃ x : Option Addr × Nat, e = .returned (.slice x.1 (txts xs).length x.2) ∧ Below w.heap.size w W' ∧ W'.ownsRow w.heap.size 9 1 (.slice x.1 (txts xs).length x.2) (txts xs).length (strs (txts xs)) := by
    have hz : (w.drewN 1).heap.size = w.heap.size := rfl
    rintro w' rfl
    have hb : Below w.heap.size w (((w.drewN 1).alloc (.cells #[.pointer (some ⟨tb, 0, none⟩)] 133)).alloc (.cells #[.string r'.name] 9)) :=
      (Below.alloc (below_drewN (Below.refl _ _) 1) (by simp [hz]) _).alloc (by simp [hz]) _
    have k1 : Blk ((w.drewN 1).alloc (.cells #[.pointer (some ⟨tb, 0, none⟩)] 133)) w.heap.size 133 #[.pointer (some ⟨tb, 0, none⟩)] := Blk.at_ _ rfl _ _
    have k2 : Blk (((w.drewN 1).alloc (.cells #[.pointer (some ⟨tb, 0, none⟩)] 133)).alloc (.cells #[.string r'.name] 9)) (w.heap.size + 1) 9 #[.string r'.name] := Blk.at_ _ (by simp [hz]) _ _
    have hg : ∀ m, SeqStopsK Fence.wide m Try.prog _ _ _ _ _ _ _ _ := fun m => below_stops l hfits _ n c tb mb (T : Int) _ hn w.heap.size (w.heap.size + 1) l.length r'.name xs hfit.name hp m _
      (by simp [hz]; omega) (by simp [hz]) (Nat.le_refl _) ((k1.alloc _).cell 0) (k2.cell 0) ((hT.below hb).more hb.size)
    refine (collect_any 133 _ (enters_of Try.func133 (by kernel_rfl) rfl) xs (by omega) _ hg).mono ?_
    rintro e W' ⟨v, rfl, ho, hB⟩
    rw [← hlen, ← hstr] at ho
    obtain ⟨A', c', rfl, -⟩ := own_slice ho
    exact ⟨(A', c'), rfl, hb.trans (hB.mono hb.size), own_base hb.size ho⟩
  have HCC := Lib.hid HC
  clear HC hT hp hstr
  go_enter Try.func91, Try.ntmps91
  go_wp2
  have hPOST : (∀ (g : Option (Option Addr × Nat)) (f : Nat → Bool) (w' : World) (e : Ending) (w'' : World), (Below w.heap.size w w' ∧ (f 12 = false → w' = w.drewN 1) ∧ (f 12 = true → f 13 = false → w' = ((w.drewN 1).alloc (.cells #[.pointer (some ⟨tb, 0, none⟩)] 133)).alloc (.cells #[.string r'.name] 9)) ∧ (∀ x, g = some x → w'.ownsRow w.heap.size 9 1 (.slice x.1 (txts xs).length x.2) (txts xs).length (strs (txts xs)))) →
      f 12 = false → e = .returned (.func (.func 133) #[] #[.pointer (some ⟨w'.heap.size, 0, none⟩), .pointer (some ⟨w'.heap.size + 1, 0, none⟩)]) → w'' = (w'.alloc (.cells #[.pointer (some ⟨tb, 0, none⟩)] 133)).alloc (.cells #[.string r'.name] 9) →
      e = .returned (.func (.func 133) #[] #[.pointer (some ⟨w.heap.size, 0, none⟩), .pointer (some ⟨w.heap.size + 1, 0, none⟩)]) ∧ (Below w.heap.size w w'' ∧ (Fx.add f 12 12 = false → w'' = w.drewN 1) ∧ (Fx.add f 12 12 = true → Fx.add f 12 13 = false → w'' = ((w.drewN 1).alloc (.cells #[.pointer (some ⟨tb, 0, none⟩)] 133)).alloc (.cells #[.string r'.name] 9)) ∧ (∀ x, g = some x → w''.ownsRow w.heap.size 9 1 (.slice x.1 (txts xs).length x.2) (txts xs).length (strs (txts xs))))) := by
    rintro g f w' e w'' ⟨hb, h1, h2, h3⟩ hf he hw
    obtain rfl := h1 hf
    subst hw
    refine ⟨he, ?_, fun h => by simp [Fx.add] at h, fun _ _ => rfl, fun x hx => ((h3 x hx).alloc _).alloc _⟩
    exact (Below.alloc hb hb.size _).alloc (by have := hb.size; first | (simp; done) | (simp; omega)) _
  have HPOST := Lib.hid hPOST
  clear hPOST hlen
  refine Fx.regionG (fun _ g f w' => Below w.heap.size w w' ∧ (f 12 = false → w' = w.drewN 1) ∧ (f 12 = true → f 13 = false → w' = ((w.drewN 1).alloc (.cells #[.pointer (some ⟨tb, 0, none⟩)] 133)).alloc (.cells #[.string r'.name] 9)) ∧ (∀ x, g = some x → w'.ownsRow w.heap.size 9 1 (.slice x.1 (txts xs).length x.2) (txts xs).length (strs (txts xs)))) (fun x : Option Addr × Nat => .slice x.1 (txts xs).length x.2) 13 (by kernel_rfl) (by kernel_rfl) (by kernel_rfl) ?_ ?_
  · intro f hf0
    exact ⟨below_drewN (Below.refl _ _) 1, fun _ => rfl, fun h => (by rw [hf0 12] at h; cases h), fun x h => by cases h⟩
  repeat (first
    | (refine Fx.skipE_ (by rfl) (fun g f w h => h) ?_; simp only [Act.put, List.setIfInBounds_toArray, List.set_cons_zero, List.set_cons_succ])
    | (refine Fx.valE_ ?_ (by rfl) ?_ (fun g f w h => h) ?_
       rotate_left
       · intro g f w' hD hk
         obtain ⟨hb, h1, h2, h3⟩ := id hD
         have y0 := (hb.cell (p := ⟨tb, 0, none⟩) htb).trans t0
         have y2 := (hb.cell (p := ⟨tb, 2, none⟩) htb).trans t2
         have yx := (hb.cell (p := ⟨xb, xo + T * 5, none⟩) (by assumption)).trans c0
         clear hk hD hb h1 h2 h3
         go_simp
         try rfl
       simp only [Act.put, List.setIfInBounds_toArray, List.set_cons_zero, List.set_cons_succ]))
  refine Fx.callvE_ (.func (.func 133) #[] #[.pointer (some ⟨w.heap.size, 0, none⟩), .pointer (some ⟨w.heap.size + 1, 0, none⟩)]) ?_ ?_ (by rfl) ?_ ?_ ?_
  rotate_left 2
  · intro w'
    go_simp
    refine ⟨?_, ?_⟩ <;> rfl
  · intro g f w' hD hk
    exact (below_any (some ⟨tb, 0, none⟩) r'.name w').mono fun e w'' ⟨he, hw⟩ => HPOST.out g f w' e w'' hD hk.1 he hw
  simp only [Act.put, List.setIfInBounds_toArray, List.set_cons_zero, List.set_cons_succ]
  repeat (first
    | (refine Fx.skipE_ (by rfl) (fun g f w h => h) ?_; simp only [Act.put, List.setIfInBounds_toArray, List.set_cons_zero, List.set_cons_succ])
    | (refine Fx.valE_ ?_ (by rfl) ?_ (fun g f w h => h) ?_
       rotate_left
       · intro g f w' hD hk
         obtain ⟨hb, h1, h2, h3⟩ := id hD
         have y0 := (hb.cell (p := ⟨tb, 0, none⟩) htb).trans t0
         have y2 := (hb.cell (p := ⟨tb, 2, none⟩) htb).trans t2
         have yx := (hb.cell (p := ⟨xb, xo + T * 5, none⟩) (by assumption)).trans c0
         clear hk hD hb h1 h2 h3
         go_simp
         try rfl
       simp only [Act.put, List.setIfInBounds_toArray, List.set_cons_zero, List.set_cons_succ]))
  refine Fx.callE_ ?_ ?_ (by rfl) (by rfl) ?_ ?_ ?_
  rotate_left 2
  · intro w'
    go_simp
    refine ⟨?_, ?_⟩ <;> rfl
  · intro f w' hD hk
    exact (HCC.out w' (hD.2.2.1 (hk.2.2.1 12 (by kernel_rfl)) hk.1)).mono fun e w'' ⟨x, he, h1, h2⟩ => ⟨x, he, h1, fun h => (by simp [Fx.add] at h; exact absurd (hk.2.2.1 12 (by kernel_rfl)) (by simp [h])), fun _ h => (by simp [Fx.add] at h), fun y hy => by cases hy; exact h2⟩
  intro x
  simp only [Act.put, List.setIfInBounds_toArray, List.set_cons_zero, List.set_cons_succ]
  repeat (first
    | (refine Fx.skip_ (by rfl) (fun f w h => h) ?_; simp only [Act.put, List.setIfInBounds_toArray, List.set_cons_zero, List.set_cons_succ])
    | (refine Fx.val_ ?_ (by rfl) ?_ (fun f w h => h) ?_
       rotate_left
       · intro f w' hD hk
         obtain ⟨hb, h1, h2, h3⟩ := id hD
         have y0 := (hb.cell (p := ⟨tb, 0, none⟩) htb).trans t0
         have y2 := (hb.cell (p := ⟨tb, 2, none⟩) htb).trans t2
         have yx := (hb.cell (p := ⟨xb, xo + T * 5, none⟩) (by assumption)).trans c0
         clear hk hD hb h1 h2 h3
         go_simp
         try rfl
       simp only [Act.put, List.setIfInBounds_toArray, List.set_cons_zero, List.set_cons_succ]))
  refine Fx.nil_ ?_
  intro f w1 hall hD
  obtain ⟨hb, h1, h2, h3⟩ := hD
  try clear hall
  have ho := h3 x rfl
  clear h1 h2 h3
  go_wp2
  go_ret
  exact ⟨hb, x.1, x.2, rfl, ho⟩

theorem TreeAt.of {l : List Rk} {A : Option Addr} {n c N tb mb : Nat} {top : Int} {w : World} (hx : Reads w N 5 A n (rkCells l)) (hN : N ≤ w.heap.size) (ht : Blk w tb 138 #[.slice A n c, .map (some mb), .int .i64 top]) (hm : MapIs Try.prog 9 w mb n (idxM l)) :
    TreeAt l A n c tb mb top w.heap.size w := ⟨hx.more hN, ht, ht.lt, hm, hm.lt⟩

def PointsPost (l : List Rk) (base : Nat) (w : World) (e : Ending) (w' : World) : Prop :=
  Below w.heap.size w w' ∧ (openErr l ≠ 0 → e = .returned (.tuple #[.slice none 0 0, .int .i64 (openErr l)])) ∧
  (openErr l = 0 → ∀ ps, ptsOf l = some ps → ∃ A c, e = .returned (.tuple #[.slice A ps.length c, .int .i64 0]) ∧ w'.ownsRow base 9 1 (.slice A ps.length c) ps.length (strs ps))

set_option maxHeartbeats 1000000 in
theorem Points_any (l : List Rk) (hfits : ∀ r ∈ l, r.Fits) (A : Option Addr) (n c N : Nat) (w : World) (hn : n ≤ 100000) (hx : Reads w N 5 A n (rkCells l)) (hN : N ≤ w.heap.size)
    (hp : openErr l = 0 → ∃ ps, ptsOf l = some ps ∧ ps.length ≤ 1000000) :
    Calls Try.prog 50 #[.slice A n c] w (PointsPost l w.heap.size w) := by
  have HP := Lib.hid hp
  have HX := Lib.hid hx
  clear hp hx
  by_cases h0 : openErr l = 0
  · obtain ⟨ps, hps, hpl⟩ := HP.out h0
    obtain ⟨z0, -⟩ := open_zero h0
    have htop := topOf_lt z0
    have H0 := Lib.hid h0
    have HPS := Lib.hid hps
    have htop' := Lib.hid htop
    clear h0 hps z0 htop
    go_enter Try.func50, Try.ntmps50
    go_wp2_with fail
    refine (open_ok l hfits A n c N _ HX.out hN (by omega) H0.out).mono ?_
    rintro e w1 ⟨rfl, hb, ht, hm⟩
    have HB1 := Lib.hid (show Below w.heap.size w w1 from step_below hb (by repeat' (first | exact Below.refl _ _ | exact HB0.out | refine below_drewN ?_ _ | refine Below.drew ?_ | refine Below.alloc ?_ (by first | omega | (simp; done) | (simp; omega) | (simp [World.setCell]; omega)) _ | refine Below.setCell ?_ (by first | omega | (simp; done) | (simp; omega)) _ | assumption)))
    have hz1 := hb.size
    try simp only [World.size_alloc, World.drewN, World.drew] at hz1
    clear hb
    have HT := Lib.hid ht
    have HM := Lib.hid hm
    clear ht hm
    go_wp2_with fail
    refine (points_any l hfits A n c _ _ w1 (by omega) (TreeAt.of (HX.out.belowLe HB1.out hN) (by omega) HT.out HM.out) htop'.out ps HPS.out hpl).mono ?_
    rintro e w2 ⟨hb2, A', c', rfl, hown⟩
    go_wp2
    go_ret2
    refine ⟨HB1.out.trans (hb2.mono (by omega)), fun h => absurd H0.out h, fun _ qs hqs => ?_⟩
    obtain rfl := Option.some.inj (HPS.out.symm.trans hqs)
    exact ⟨A', c', rfl, own_base (by omega) hown⟩
  · have H0 := Lib.hid h0
    have hne : (openErr l != 0) = true := by simpa using h0
    clear h0
    go_enter Try.func50, Try.ntmps50
    go_wp2_with fail
    refine (open_bad l hfits A n c N _ HX.out hN (by omega) H0.out).mono ?_
    rintro e w1 ⟨rfl, hb⟩
    have HB1 := Lib.hid (show Below w.heap.size w w1 from step_below hb (by repeat' (first | exact Below.refl _ _ | exact HB0.out | refine below_drewN ?_ _ | refine Below.drew ?_ | refine Below.alloc ?_ (by first | omega | (simp; done) | (simp; omega) | (simp [World.setCell]; omega)) _ | refine Below.setCell ?_ (by first | omega | (simp; done) | (simp; omega)) _ | assumption)))
    have hz1 := hb.size
    try simp only [World.size_alloc, World.drewN, World.drew] at hz1
    clear hb
    go_wp2
    go_ret2
    exact ⟨HB1.out, fun _ => rfl, fun h => absurd h H0.out⟩

set_option maxHeartbeats 1000000 in
theorem CheckTree_any (l : List Rk) (hfits : ∀ r ∈ l, r.Fits) (A : Option Addr) (n c N : Nat) (w : World) (hn : n ≤ 100000) (hx : Reads w N 5 A n (rkCells l)) (hN : N ≤ w.heap.size) :
    Calls Try.prog 52 #[.slice A n c] w fun e w' => e = .returned (.int .i64 (openErr l)) ∧ Below w.heap.size w w' := by
  have HX := Lib.hid hx
  clear hx
  by_cases h0 : openErr l = 0
  · have H0 := Lib.hid h0
    clear h0
    go_enter Try.func52, Try.ntmps52
    go_wp2_with fail
    refine (open_ok l hfits A n c N _ HX.out hN (by omega) H0.out).mono ?_
    rintro e w1 ⟨rfl, hb, -, -⟩
    have HB1 := Lib.hid (show Below w.heap.size w w1 from step_below hb (by repeat' (first | exact Below.refl _ _ | exact HB0.out | refine below_drewN ?_ _ | refine Below.drew ?_ | refine Below.alloc ?_ (by first | omega | (simp; done) | (simp; omega) | (simp [World.setCell]; omega)) _ | refine Below.setCell ?_ (by first | omega | (simp; done) | (simp; omega)) _ | assumption)))
    have hz1 := hb.size
    try simp only [World.size_alloc, World.drewN, World.drew] at hz1
    clear hb
    go_wp2
    go_ret
    exact ⟨by rw [H0.out]; rfl, HB1.out⟩
  · have H0 := Lib.hid h0
    clear h0
    go_enter Try.func52, Try.ntmps52
    go_wp2_with fail
    refine (open_bad l hfits A n c N _ HX.out hN (by omega) H0.out).mono ?_
    rintro e w1 ⟨rfl, hb⟩
    have HB1 := Lib.hid (show Below w.heap.size w w1 from step_below hb (by repeat' (first | exact Below.refl _ _ | exact HB0.out | refine below_drewN ?_ _ | refine Below.drew ?_ | refine Below.alloc ?_ (by first | omega | (simp; done) | (simp; omega) | (simp [World.setCell]; omega)) _ | refine Below.setCell ?_ (by first | omega | (simp; done) | (simp; omega)) _ | assumption)))
    have hz1 := hb.size
    try simp only [World.size_alloc, World.drewN, World.drew] at hz1
    clear hb
    go_wp2
    go_ret
    exact ⟨rfl, by repeat' (first | exact Below.refl _ _ | exact HB1.out | refine below_drewN ?_ _ | refine Below.drew ?_ | refine Below.alloc ?_ (by first | omega | (simp; done) | (simp; omega) | (simp [World.setCell]; omega)) _ | refine Below.setCell ?_ (by first | omega | (simp; done) | (simp; omega)) _ | assumption)⟩

set_option maxHeartbeats 1000000 in
theorem Top_any (l : List Rk) (hfits : ∀ r ∈ l, r.Fits) (A : Option Addr) (n c N : Nat) (w : World) (hn : n ≤ 100000) (hx : Reads w N 5 A n (rkCells l)) (hN : N ≤ w.heap.size) (s : ByteArray) (hs : s = if openErr l = 0 then topName l else ByteArray.empty) (E : Int) (hE : openErr l = E) :
    Calls Try.prog 48 #[.slice A n c] w fun e w' => e = .returned (.tuple #[.string s, .int .i64 E]) ∧ Below w.heap.size w w' := by
  have HX := Lib.hid hx
  clear hx
  by_cases h0 : openErr l = 0
  · obtain ⟨z0, -⟩ := open_zero h0
    have htop := topOf_lt z0
    obtain ⟨r, hr, hnm⟩ := topName_get htop
    have hn2 := HX.out.len5
    obtain ⟨xb, xo, r', rfl, hxb, hr', c0, -, -, -, -⟩ := HX.out.rk (i := topOf l) (by omega)
    obtain rfl := Option.some.inj (hr'.symm.trans hr)
    obtain rfl : s = r'.name := by rw [hs, if_pos h0, hnm]
    obtain rfl : E = 0 := by rw [← hE, h0]
    obtain ⟨T, hTT⟩ : ∃ T, topOf l = T := ⟨_, rfl⟩
    rw [hTT] at c0 htop
    have H0 := Lib.hid h0
    have C0 := Lib.hid c0
    have HTT := Lib.hid hTT
    clear h0 c0 hTT hnm hs hr hr' z0 hE
    go_enter Try.func48, Try.ntmps48
    go_wp2_with fail
    refine (open_ok l hfits _ n c N _ HX.out hN (by omega) H0.out).mono ?_
    rintro e w1 ⟨rfl, hb, ht, hm⟩
    have HB1 := Lib.hid (show Below w.heap.size w w1 from step_below hb (by repeat' (first | exact Below.refl _ _ | exact HB0.out | refine below_drewN ?_ _ | refine Below.drew ?_ | refine Below.alloc ?_ (by first | omega | (simp; done) | (simp; omega) | (simp [World.setCell]; omega)) _ | refine Below.setCell ?_ (by first | omega | (simp; done) | (simp; omega)) _ | assumption)))
    have hz1 := hb.size
    try simp only [World.size_alloc, World.drewN, World.drew] at hz1
    clear hb
    have t2 : w1.cell? ⟨w.heap.size + 1, 2, none⟩ = some (.int .i64 (T : Int)) := by rw [← HTT.out]; exact ht.cell 2
    have c0 : w1.cell? ⟨xb, xo + T * 5, none⟩ = some (.string r'.name) := (HB1.out.cell (p := ⟨xb, xo + T * 5, none⟩) (by show xb < _; omega)).trans C0.out
    clear ht hm
    go_wp2
    go_ret2
    refine ⟨rfl, ?_⟩
    repeat' (first | exact Below.refl _ _ | exact HB1.out | refine below_drewN ?_ _ | refine Below.drew ?_ | refine Below.alloc ?_ (by first | omega | (simp; done) | (simp; omega) | (simp [World.setCell]; omega)) _ | refine Below.setCell ?_ (by first | omega | (simp; done) | (simp; omega)) _ | assumption)
  · have hne : (openErr l != 0) = true := by simpa using h0
    obtain rfl : s = ByteArray.empty := by rw [hs, if_neg h0]
    have H0 := Lib.hid h0
    subst hE
    clear h0 hs
    go_enter Try.func48, Try.ntmps48
    go_wp2_with fail
    refine (open_bad l hfits A n c N _ HX.out hN (by omega) H0.out).mono ?_
    rintro e w1 ⟨rfl, hb⟩
    have HB1 := Lib.hid (show Below w.heap.size w w1 from step_below hb (by repeat' (first | exact Below.refl _ _ | exact HB0.out | refine below_drewN ?_ _ | refine Below.drew ?_ | refine Below.alloc ?_ (by first | omega | (simp; done) | (simp; omega) | (simp [World.setCell]; omega)) _ | refine Below.setCell ?_ (by first | omega | (simp; done) | (simp; omega)) _ | assumption)))
    have hz1 := hb.size
    try simp only [World.size_alloc, World.drewN, World.drew] at hz1
    clear hb
    go_wp2
    go_ret2
    refine ⟨rfl, ?_⟩
    repeat' (first | exact Below.refl _ _ | exact HB1.out | refine below_drewN ?_ _ | refine Below.drew ?_ | refine Below.alloc ?_ (by first | omega | (simp; done) | (simp; omega) | (simp [World.setCell]; omega)) _ | refine Below.setCell ?_ (by first | omega | (simp; done) | (simp; omega)) _ | assumption)

end Go.Proofs.Ytmioamcgbihhjaa
