import Derived.Test.YtmejiafmmmeloaaQ1
import Derived.Test.YtmejiafmmmeloaaQ2
import Derived.Test.YtmejiafmmmeloaaQ5
import Derived.BigQuiet
import Derived.Test.YtmejiafmmmeloaaQ8

section
/- Plain model of the sort of whole numbers by insertion. -/
namespace Go.Proofs.Ytmejiafmmmeloaa
open Go.RowKit

def insAtI (p : List Int) (x : Int) (j : Nat) : List Int := p.take j ++ x :: p.drop j
/-- x sinks from place j. -/
def insFI (lt : Int → Int → Bool) (p : List Int) (x : Int) : Nat → List Int
  | 0 => insAtI p x 0
  | j + 1 => if lt x (p.getD j 0) then insFI lt p x j else insAtI p x (j + 1)
def sortFI (lt : Int → Int → Bool) (l : List Int) : List Int := l.foldl (fun p x => insFI lt p x p.length) []

theorem sortF_snoc_I (lt : Int → Int → Bool) (l : List Int) (x : Int) : sortFI lt (l ++ [x]) = insFI lt (sortFI lt l) x (sortFI lt l).length := by unfold sortFI; rw [List.foldl_append]; rfl
theorem insAt_len_I {p : List Int} {x : Int} {j : Nat} (hj : j ≤ p.length) : (insAtI p x j).length = p.length + 1 := by
  unfold insAtI
  rw [List.length_append, List.length_cons, List.length_take, List.length_drop]
  omega
theorem insF_at_I (lt : Int → Int → Bool) (p : List Int) (x : Int) : ∀ j, j ≤ p.length → ∃ i, i ≤ j ∧ insFI lt p x j = insAtI p x i
  | 0, _ => ⟨0, Nat.le_refl _, rfl⟩
  | j + 1, hj => by
    unfold insFI
    cases lt x (p.getD j 0) with
    | true =>
      obtain ⟨i, h1, h2⟩ := insF_at_I lt p x j (by omega)
      exact ⟨i, by omega, by simpa using h2⟩
    | false => exact ⟨j + 1, Nat.le_refl _, by simp⟩
theorem insF_len_I (lt : Int → Int → Bool) (p : List Int) (x : Int) (j : Nat) (hj : j ≤ p.length) : (insFI lt p x j).length = p.length + 1 := by
  obtain ⟨i, h1, h2⟩ := insF_at_I lt p x j hj
  rw [h2, insAt_len_I (by omega)]
theorem sortF_len_I (lt : Int → Int → Bool) (l : List Int) : (sortFI lt l).length = l.length := by
  have key : ∀ (l p : List Int), (l.foldl (fun p x => insFI lt p x p.length) p).length = p.length + l.length := by
    intro l
    induction l with
    | nil => intro p; simp
    | cons x l ih => intro p; rw [List.foldl_cons, ih, insF_len_I _ _ _ _ (Nat.le_refl _), List.length_cons]; omega
  unfold sortFI
  rw [key]
  simp
theorem insAt_mem_I {p : List Int} {x y : Int} {j : Nat} : y ∈ insAtI p x j ↔ y ∈ p ∨ y = x := by
  unfold insAtI
  rw [List.mem_append, List.mem_cons]
  have h : y ∈ p ↔ y ∈ p.take j ∨ y ∈ p.drop j := by rw [← List.mem_append, List.take_append_drop]
  rw [h]
  constructor
  · rintro (h | h | h)
    · exact .inl (.inl h)
    · exact .inr h
    · exact .inl (.inr h)
  · rintro ((h | h) | h)
    · exact .inl h
    · exact .inr (.inr h)
    · exact .inr (.inl h)
theorem sortF_mem_I (lt : Int → Int → Bool) {y : Int} : ∀ (l : List Int), y ∈ sortFI lt l ↔ y ∈ l := by
  have key : ∀ (l p : List Int), y ∈ l.foldl (fun p x => insFI lt p x p.length) p ↔ y ∈ p ∨ y ∈ l := by
    intro l
    induction l with
    | nil => intro p; simp
    | cons x l ih =>
      intro p
      obtain ⟨i, h1, h2⟩ := insF_at_I lt p x p.length (Nat.le_refl _)
      rw [List.foldl_cons, ih, h2, insAt_mem_I, List.mem_cons, or_assoc]
  intro l
  unfold sortFI
  rw [key]
  simp
theorem cut_at_I {p : List Int} {j : Nat} (hj : j < p.length) : ∃ a y b, p = a ++ y :: b ∧ a.length = j ∧ p.getD j 0 = y := by
  refine ⟨p.take j, p[j], p.drop (j + 1), ?_, by rw [List.length_take]; omega, ?_⟩
  · rw [← List.drop_eq_getElem_cons hj, List.take_append_drop]
  · rw [List.getD_eq_getElem?_getD, List.getElem?_eq_getElem hj]; rfl
theorem take_mid_I (a : List Int) (y : Int) (b : List Int) : (a ++ y :: b).take (a.length + 1) = a ++ [y] ∧ (a ++ y :: b).drop (a.length + 1) = b := by
  have e : a ++ y :: b = (a ++ [y]) ++ b := by simp
  have hl : (a ++ [y]).length = a.length + 1 := by simp
  rw [e, ← hl]
  exact ⟨by rw [List.take_left], by rw [List.drop_left]⟩
theorem insAt_get_I {p r : List Int} {x : Int} {j : Nat} (hj : j < p.length) : (insAtI p x (j + 1) ++ r)[j + 1]? = some x ∧ (insAtI p x (j + 1) ++ r)[j]? = some (p.getD j 0) := by
  obtain ⟨a, y, b, rfl, rfl, hy⟩ := cut_at_I hj
  rw [hy]
  have e : insAtI (a ++ y :: b) x (a.length + 1) = a ++ y :: x :: b := by
    unfold insAtI
    rw [(take_mid_I a y b).1, (take_mid_I a y b).2]
    simp
  rw [e]
  constructor
  · rw [List.append_assoc, List.getElem?_append_right (by omega)]; simp
  · rw [List.append_assoc, List.getElem?_append_right (by omega)]; simp
theorem insAt_swap_I {p r : List Int} {x : Int} {j : Nat} (hj : j < p.length) : ((insAtI p x (j + 1) ++ r).set (j + 1) (p.getD j 0)).set j x = insAtI p x j ++ r := by
  obtain ⟨a, y, b, rfl, rfl, hy⟩ := cut_at_I hj
  rw [hy]
  have e : insAtI (a ++ y :: b) x (a.length + 1) = a ++ y :: x :: b := by
    unfold insAtI
    rw [(take_mid_I a y b).1, (take_mid_I a y b).2]
    simp
  have e2 : insAtI (a ++ y :: b) x a.length = a ++ x :: y :: b := by
    unfold insAtI
    rw [List.take_append, List.drop_append]
    simp
  rw [e, e2, List.append_assoc, List.set_append_right _ _ (by omega), List.append_assoc, List.set_append_right _ _ (by omega)]
  simp
theorem insAt_all_I {p : List Int} {x : Int} : insAtI p x p.length = p ++ [x] := by unfold insAtI; simp

/-- In order: no element is less than one ahead of it. -/
def SrtI (lt : Int → Int → Bool) (l : List Int) : Prop := l.Pairwise fun a b => lt b a = false
theorem insF_srt_I {lt : Int → Int → Bool} (htr : ∀ a b c, lt b a = false → lt c b = false → lt c a = false) (has : ∀ a b, lt a b = true → lt b a = false) {p : List Int} (hp : SrtI lt p) (x : Int) :
    ∀ j, j ≤ p.length → (∀ y ∈ p.drop j, lt y x = false) → SrtI lt (insFI lt p x j) := by
  have key : ∀ j, j ≤ p.length → (∀ y ∈ p.drop j, lt y x = false) → (∀ y ∈ p.take j, lt x y = false) → SrtI lt (insAtI p x j) := by
    intro j hj h1 h2
    unfold SrtI insAtI at *
    rw [← List.take_append_drop j p, List.pairwise_append] at hp
    rw [List.pairwise_append, List.pairwise_cons]
    refine ⟨hp.1, ⟨h1, hp.2.1⟩, fun a ha b hb => ?_⟩
    rcases List.mem_cons.1 hb with rfl | hb
    · exact h2 a ha
    · exact hp.2.2 a ha b hb
  intro j
  induction j with
  | zero => intro hj h1; exact key 0 hj h1 (by simp)
  | succ j ih =>
    intro hj h1
    unfold insFI
    obtain ⟨a, y, b, hp', hl, hy⟩ := cut_at_I (show j < p.length by omega)
    have hdr : p.drop j = y :: p.drop (j + 1) := by
      have e1 : p.drop j = y :: b := by rw [hp', ← hl]; simp
      have e2 : p.drop (j + 1) = b := by rw [hp', ← hl]; exact (take_mid_I a y b).2
      rw [e1, e2]
    cases hlt : lt x (p.getD j 0) with
    | true =>
      rw [hy] at hlt
      simp only [if_true]
      refine ih (by omega) fun z hz => ?_
      rw [hdr] at hz
      rcases List.mem_cons.1 hz with rfl | hz
      · exact has _ _ hlt
      · exact h1 z hz
    | false =>
      rw [hy] at hlt
      simp only [Bool.false_eq_true, if_false]
      refine key (j + 1) hj h1 fun z hz => ?_
      have e3 : p.take (j + 1) = a ++ [y] := by rw [hp', ← hl]; exact (take_mid_I a y b).1
      rw [e3] at hz
      rcases List.mem_append.1 hz with hz | hz
      · have : lt y z = false := by
          unfold SrtI at hp
          rw [hp', List.pairwise_append] at hp
          exact hp.2.2 z hz y (by simp)
        exact htr z y x this hlt
      · obtain rfl : z = y := by simpa using hz
        exact hlt
theorem sortF_srt_I {lt : Int → Int → Bool} (htr : ∀ a b c, lt b a = false → lt c b = false → lt c a = false) (has : ∀ a b, lt a b = true → lt b a = false) (l : List Int) : SrtI lt (sortFI lt l) := by
  have key : ∀ (l p : List Int), SrtI lt p → SrtI lt (l.foldl (fun p x => insFI lt p x p.length) p) := by
    intro l
    induction l with
    | nil => intro p hp; exact hp
    | cons x l ih => intro p hp; exact ih _ (insF_srt_I htr has hp x p.length (Nat.le_refl _) (by simp))
  exact key l [] List.Pairwise.nil
end Go.Proofs.Ytmejiafmmmeloaa

end

section
/- The sort of few whole numbers. -/
namespace Go.Proofs.Ytmejiafmmmeloaa
open Go Go.RowKit

def intsO (l : List Int) : List Value := l.map (.int .i64)
theorem intsO_len (l : List Int) : (intsO l).length = l.length := by unfold intsO; simp
theorem intsO_get {l : List Int} {ext : List Value} {i : Nat} {x : Int} (h : l[i]? = some x) : (intsO l ++ ext)[i]? = some (.int .i64 x) := by
  have hl : i < l.length := (List.getElem?_eq_some_iff.1 h).1
  rw [List.getElem?_append_left (by rw [intsO_len]; exact hl)]
  unfold intsO; rw [List.getElem?_map, h]; rfl
theorem intsO_set2 {l : List Int} {ext : List Value} {i j : Nat} {x y : Int} (hi : i < l.length) (hj : j < l.length) : intsO ((l.set i x).set j y) ++ ext = ((intsO l ++ ext).set i (.int .i64 x)).set j (.int .i64 y) := by
  rw [List.set_append_left _ _ (by rw [intsO_len]; exact hi), List.set_append_left _ _ (by rw [List.length_set, intsO_len]; exact hj)]
  unfold intsO
  rw [List.map_set, List.map_set]
def ltO (x y : Int) : Bool := decide (x < y)
theorem lesso_is (a b : Int) (t : Bool) (ht : decide (a < b) = t) (w : World) : Calls Try.prog 62 #[.int .i64 a, .int .i64 b] w fun e w' => e = .returned (.bool t) ∧ w = w' := by
  have HT := Lib.hid ht
  go_enter Try.func62, Try.ntmps62
  go_wp2_with fail
  refine (isnan_any a _).mono ?_
  rintro e w' ⟨rfl, rfl⟩
  go_wp2
  go_ret
  exact ⟨rfl, rfl⟩
set_option maxRecDepth 100000 in
set_option maxHeartbeats 4000000 in
theorem insorto_any (g n c : Nat) (L : List Int) (ext : List Value) (hL : L.length = n) (hn : n ≤ 1000) (w : World) (hb : Blk w g 3 (intsO L ++ ext).toArray) :
    Calls Try.prog 56 #[.slice (some ⟨g, 0, none⟩) n c, .int .i64 0, .int .i64 (n : Int)] w fun e w' => e = .returned (.tuple #[]) ∧ w.grownBy w' (some g) ∧ Blk w' g 3 (intsO (sortFI ltO L) ++ ext).toArray := by
  have HL := Lib.hid hL
  have HB := Lib.hid hb
  have hglt := hb.lt
  clear hL hb
  go_enter Try.func56, Try.ntmps56
  go_wp2
  go_loopw [6] (fun v wr => ∃ i : Nat, 1 ≤ i ∧ i ≤ n + 1 ∧ v = .int .i64 i ∧ w.grownBy wr (some g) ∧ Blk wr g 3 (intsO (sortFI ltO (L.take i) ++ L.drop i) ++ ext).toArray) (fun v _ => n + 1 - (intOf v).toNat)
  case atStart =>
    refine ⟨1, by omega, by omega, rfl, World.grownBy.refl _ _, ?_⟩
    have e : sortFI ltO (L.take 1) = L.take 1 := by
      cases L with
      | nil => rfl
      | cons x l => rfl
    rw [e, List.take_append_drop]
    exact HB.out
  case round =>
    obtain ⟨i, hi1, hi2, rfl, hgr, hbk⟩ := hrel
    have HG := Lib.hid hgr
    have HBK := Lib.hid hbk
    clear hgr hbk
    obtain ⟨w1, hnm⟩ : ∃ z : World, z = wr := ⟨_, rfl⟩
    subst hnm
    by_cases hlt : i < n
    rotate_left
    · have hnl : ¬ ((i : Int) < (n : Int)) := by omega
      have hfin : sortFI ltO (L.take i) ++ L.drop i = sortFI ltO L := by
        rw [List.take_of_length_le (by rw [HL.out]; omega), List.drop_eq_nil_of_le (by rw [HL.out]; omega), List.append_nil]
      have h2 := HBK.out
      rw [hfin] at h2
      have H2 := Lib.hid h2
      clear h2 hfin
      go_wp2
      go_end0
      exact ⟨rfl, HG.out, H2.out⟩
    have hii : (i : Int) < (n : Int) := by omega
    obtain ⟨p, hp⟩ : ∃ p, sortFI ltO (L.take i) = p := ⟨_, rfl⟩
    have hpl : p.length = i := by rw [← hp, sortF_len_I, List.length_take, HL.out]; omega
    obtain ⟨x, hx⟩ : ∃ x, L[i]? = some x := ⟨_, List.getElem?_eq_getElem (by rw [HL.out]; exact hlt)⟩
    have hdr : L.drop i = x :: L.drop (i + 1) := by
      obtain ⟨h1, h2⟩ := List.getElem?_eq_some_iff.1 hx
      rw [List.drop_eq_getElem_cons h1, h2]
    have hnx : sortFI ltO (L.take (i + 1)) = insFI ltO p x i := by rw [List.take_add_one, hx]; show sortFI ltO (L.take i ++ [x]) = _; rw [sortF_snoc_I, hp, hpl]
    have hst : Blk w1 g 3 (intsO (insAtI p x i ++ L.drop (i + 1)) ++ ext).toArray := by
      have e : insAtI p x i ++ L.drop (i + 1) = sortFI ltO (L.take i) ++ L.drop i := by rw [hdr, hp, ← hpl, insAt_all_I]; simp
      rw [e]
      exact HBK.out
    have hxL : x ∈ L := List.mem_of_getElem? hx
    have hpL : ∀ y ∈ p, y ∈ L := fun y hy => by
      rw [← hp, sortF_mem_I] at hy
      exact List.mem_of_mem_take hy
    have HP := Lib.hid hpl
    have HNX := Lib.hid hnx
    have HST := Lib.hid hst
    have HPL := Lib.hid hpL
    have HXL := Lib.hid hxL
    clear HBK hp hpl hx hdr hnx hst hpL hxL
    go_wp2
    go_loopw [7] (fun v wr => ∃ j : Nat, j ≤ i ∧ v = .int .i64 j ∧ w.grownBy wr (some g) ∧ Blk wr g 3 (intsO (insAtI p x j ++ L.drop (i + 1)) ++ ext).toArray ∧ insFI ltO p x i = insFI ltO p x j) (fun v _ => (intOf v).toNat)
    case atStart => exact ⟨i, Nat.le_refl _, rfl, HG.out, HST.out, rfl⟩
    case round =>
      obtain ⟨j, hj, rfl, hgr, hbk, hres⟩ := hrel
      have HG2 := Lib.hid hgr
      have HBK := Lib.hid hbk
      have HRES := Lib.hid hres
      clear hgr hbk hres
      obtain ⟨w2, hnm⟩ : ∃ z : World, z = wr := ⟨_, rfl⟩
      subst hnm
      have hs2 := HG2.out.size
      rcases Nat.eq_zero_or_pos j with h0 | h0
      · subst h0
        have hd : decide ((0 : Int) < ((0 : Nat) : Int)) = false := by decide
        have hfin : Blk w2 g 3 (intsO (sortFI ltO (L.take (i + 1)) ++ L.drop (i + 1)) ++ ext).toArray := by rw [HNX.out, HRES.out]; exact HBK.out
        have HF := Lib.hid hfin
        clear hfin
        go_wp2
        go_quiet (fail)
        go_wp2
        go_roundw
        case rel => exact ⟨i + 1, by omega, by omega, by go_num, only_drewN HG2.out _, Blk.drewN HF.out _⟩
        case measure => simp [intOf]; omega
      · obtain ⟨j', hjj⟩ : ∃ j', j' + 1 = j := ⟨j - 1, by omega⟩
        obtain ⟨y, hy⟩ : ∃ y, p.getD j' 0 = y := ⟨_, rfl⟩
        have hjp : j' < p.length := by rw [HP.out]; omega
        have hyp : y ∈ p := by
          have h1 : p[j']? = some y := by rw [List.getD_eq_getElem?_getD, List.getElem?_eq_getElem hjp] at hy; rw [List.getElem?_eq_getElem hjp]; exact congrArg some hy
          exact List.mem_of_getElem? h1
        have hyL := HPL.out y hyp
        obtain ⟨g0, g1⟩ := insAt_get_I (r := L.drop (i + 1)) (x := x) hjp
        rw [hy] at g1
        rw [hjj] at g0 g1
        have c0 : w2.cell? ⟨g, j, none⟩ = some (.int .i64 x) := by rw [HBK.out.cell]; simpa using intsO_get (ext := ext) g0
        have c1 : w2.cell? ⟨g, j', none⟩ = some (.int .i64 y) := by rw [HBK.out.cell]; simpa using intsO_get (ext := ext) g1
        have hd : decide ((0 : Int) < (j : Int)) = true := by first | (simp; done) | (simp; omega)
        have k1 : 0 ≤ (j : Int) := by omega
        have k2 : (j : Int) < (n : Int) := by omega
        have k3 := IntWalk.i64_in (j' : Int) ⟨by omega, by omega⟩
        have k5 : 0 ≤ (j' : Int) := by omega
        have k6 : (j' : Int) < (n : Int) := by omega
        have k7 : (j : Int) - 1 = (j' : Int) := by omega
        have hswap := insAt_swap_I (r := L.drop (i + 1)) (x := x) hjp
        rw [hy] at hswap
        have hgb := Blk.lt HBK.out
        obtain ⟨t, ht⟩ : ∃ t, decide (x < y) = t := ⟨_, rfl⟩
        have hlk : ltO x y = t := ht
        have hins : insFI ltO p x (j' + 1) = if t = true then insFI ltO p x j' else insAtI p x (j' + 1) := by
          show (if ltO x (p.getD j' 0) = true then _ else _) = _
          rw [hy, hlk]
        have HINS := Lib.hid hins
        have HY := Lib.hid hy
        have HCT := Lib.hid ht
        have HYL := Lib.hid hyL
        have HSW := Lib.hid hswap
        have HJJ := Lib.hid hjj
        clear hins ht hlk hy hyp hyL g0 g1 hswap hjj
        go_wp2
        refine Fx.regionW (fun W f w' => Below W.heap.size W w') (by kernel_rfl) (by kernel_rfl) ?_ ?_
        · intro f hf0
          exact below_drewN (Below.refl _ _) 1
        repeat (first
          | (refine Fx.skip_ (by rfl) (fun f w h => h) ?_; simp only [Act.put, List.setIfInBounds_toArray, List.set_cons_zero, List.set_cons_succ])
          | (refine Fx.val_ ?_ (by rfl) ?_ (fun f w h => h) ?_
             rotate_left
             · intro f w' hD hk
               have hb := hD
               have y0 : w'.cell? ⟨g, j, none⟩ = some (.int .i64 x) := step_cell hb (by exact c0) hgb
               have y1 : w'.cell? ⟨g, j', none⟩ = some (.int .i64 y) := step_cell hb (by exact c1) hgb
               clear hk hD hb
               go_simp
               try rfl
             simp only [Act.put, List.setIfInBounds_toArray, List.set_cons_zero, List.set_cons_succ]))
        refine Fx.call_ (.bool t) ?_ ?_ (by rfl) ?_ ?_ ?_
        rotate_left 2
        · intro w'
          go_simp
          refine ⟨?_, ?_⟩ <;> rfl
        · intro f w' hD hk
          exact (lesso_is x y t HCT.out w').mono fun e w'' ⟨he, hw⟩ => ⟨he, hw ▸ hD⟩
        simp only [Act.put, List.setIfInBounds_toArray, List.set_cons_zero, List.set_cons_succ]
        repeat (first
          | (refine Fx.skip_ (by rfl) (fun f w h => h) ?_; simp only [Act.put, List.setIfInBounds_toArray, List.set_cons_zero, List.set_cons_succ])
          | (refine Fx.val_ ?_ (by rfl) ?_ (fun f w h => h) ?_
             rotate_left
             · intro f w' hD hk
               have hb := hD
               have y0 : w'.cell? ⟨g, j, none⟩ = some (.int .i64 x) := step_cell hb (by exact c0) hgb
               have y1 : w'.cell? ⟨g, j', none⟩ = some (.int .i64 y) := step_cell hb (by exact c1) hgb
               clear hk hD hb
               go_simp
               try rfl
             simp only [Act.put, List.setIfInBounds_toArray, List.set_cons_zero, List.set_cons_succ]))
        refine Fx.nil_ ?_
        intro f w3 hall hb3
        clear hall c0 c1
        have hbk3 := Blk.below HBK.out hb3 hgb
        have hg3 := Fx.grown_trans_ HG2.out (only_of_below hb3 (some g))
        have HB3 := Lib.hid hbk3
        have HG3 := Lib.hid hg3
        obtain ⟨g0, g1⟩ := insAt_get_I (r := L.drop (i + 1)) (x := x) (show j' < p.length by rw [HP.out]; have := HJJ.out; omega)
        rw [HY.out] at g1
        rw [HJJ.out] at g0 g1
        have c0 : w3.cell? ⟨g, j, none⟩ = some (.int .i64 x) := by rw [hbk3.cell]; simpa using intsO_get (ext := ext) g0
        have c1 : w3.cell? ⟨g, j', none⟩ = some (.int .i64 y) := by rw [hbk3.cell]; simpa using intsO_get (ext := ext) g1
        have f0 : w3.frozen? ⟨g, j, none⟩ = false := hbk3.frozen _
        have f1 : w3.frozen? ⟨g, j', none⟩ = false := hbk3.frozen _
        have hjn : ¬ j = j' := by have := HJJ.out; omega
        have hjn' : ¬ j' = j := by have := HJJ.out; omega
        clear hbk3 hg3 g0 g1 hb3
        cases t with
        | true =>
          have hnext : insFI ltO p x i = insFI ltO p x j' := by rw [HRES.out, ← HJJ.out, HINS.out, if_pos rfl]
          have HNEXT := Lib.hid hnext
          clear hnext
          go_wp2
          refine Fx.regionW (fun W f w' => (f 15 = false → f 17 = false → ∃ k, w' = W.drewN k) ∧ (f 15 = true → f 17 = false → ∃ k, w' = (W.drewN k).setCell ⟨g, j, none⟩ (.int .i64 y)) ∧ (f 17 = true → ∃ k, w' = ((W.drewN k).setCell ⟨g, j, none⟩ (.int .i64 y)).setCell ⟨g, j', none⟩ (.int .i64 x))) (by kernel_rfl) (by kernel_rfl) ?_ ?_
          · intro f hf0
            exact ⟨fun _ _ => ⟨1, rfl⟩, fun h => by rw [hf0 15] at h; (cases h), fun h => by rw [hf0 17] at h; cases h⟩
          repeat (first
            | (refine Fx.skip_ (by rfl) (fun f w h => h) ?_; simp only [Act.put, List.setIfInBounds_toArray, List.set_cons_zero, List.set_cons_succ])
            | (refine Fx.val_ ?_ (by rfl) ?_ (fun f w h => h) ?_
               rotate_left
               · intro f w' hD hk
                 obtain ⟨h1, h2, h3⟩ := id hD
                 clear hk hD h1 h2 h3
                 go_simp
                 try rfl
               simp only [Act.put, List.setIfInBounds_toArray, List.set_cons_zero, List.set_cons_succ]))
          refine Fx.val_ ?_ (by rfl) ?_ (fun f w h => h) ?_
          rotate_left
          · intro f w' hD hk
            obtain ⟨h1, h2, h3⟩ := id hD
            obtain ⟨k, rfl⟩ := h1 (hk.2.1 15 (by kernel_rfl)) (hk.2.1 17 (by kernel_rfl))
            clear hk hD h1 h2 h3
            go_simp
            try rfl
          simp only [Act.put, List.setIfInBounds_toArray, List.set_cons_zero, List.set_cons_succ]
          repeat (first
            | (refine Fx.skip_ (by rfl) (fun f w h => h) ?_; simp only [Act.put, List.setIfInBounds_toArray, List.set_cons_zero, List.set_cons_succ])
            | (refine Fx.val_ ?_ (by rfl) ?_ (fun f w h => h) ?_
               rotate_left
               · intro f w' hD hk
                 obtain ⟨h1, h2, h3⟩ := id hD
                 clear hk hD h1 h2 h3
                 go_simp
                 try rfl
               simp only [Act.put, List.setIfInBounds_toArray, List.set_cons_zero, List.set_cons_succ]))
          refine Fx.val_ ?_ (by rfl) ?_ (fun f w h => h) ?_
          rotate_left
          · intro f w' hD hk
            obtain ⟨h1, h2, h3⟩ := id hD
            obtain ⟨k, rfl⟩ := h1 (hk.2.1 15 (by kernel_rfl)) (hk.2.1 17 (by kernel_rfl))
            clear hk hD h1 h2 h3
            go_simp
            try rfl
          simp only [Act.put, List.setIfInBounds_toArray, List.set_cons_zero, List.set_cons_succ]
          repeat (first
            | (refine Fx.skip_ (by rfl) (fun f w h => h) ?_; simp only [Act.put, List.setIfInBounds_toArray, List.set_cons_zero, List.set_cons_succ])
            | (refine Fx.val_ ?_ (by rfl) ?_ (fun f w h => h) ?_
               rotate_left
               · intro f w' hD hk
                 obtain ⟨h1, h2, h3⟩ := id hD
                 clear hk hD h1 h2 h3
                 go_simp
                 try rfl
               simp only [Act.put, List.setIfInBounds_toArray, List.set_cons_zero, List.set_cons_succ]))
          refine Fx.store_ (fun w' => w'.setCell ⟨g, j, none⟩ (.int .i64 y)) (by rfl) ?_ ?_ ?_
          · intro f w' hD hk
            obtain ⟨h1, h2, h3⟩ := id hD
            have e17 : f 17 = false := hk.2.1 17 (by kernel_rfl)
            obtain ⟨k, rfl⟩ := h1 hk.1 e17
            clear h1 h2 h3
            clear hk hD
            go_simp
          · intro f w' hD hk
            obtain ⟨h1, h2, h3⟩ := id hD
            have e17 : f 17 = false := hk.2.1 17 (by kernel_rfl)
            obtain ⟨k, rfl⟩ := h1 hk.1 e17
            clear h1 h2 h3
            exact ⟨fun h => by simp [Fx.add] at h, fun _ _ => ⟨k, rfl⟩, fun h => by simp [Fx.add, e17] at h⟩
          simp only [Act.put, List.setIfInBounds_toArray, List.set_cons_zero, List.set_cons_succ]
          repeat (first
            | (refine Fx.skip_ (by rfl) (fun f w h => h) ?_; simp only [Act.put, List.setIfInBounds_toArray, List.set_cons_zero, List.set_cons_succ])
            | (refine Fx.val_ ?_ (by rfl) ?_ (fun f w h => h) ?_
               rotate_left
               · intro f w' hD hk
                 obtain ⟨h1, h2, h3⟩ := id hD
                 clear hk hD h1 h2 h3
                 go_simp
                 try rfl
               simp only [Act.put, List.setIfInBounds_toArray, List.set_cons_zero, List.set_cons_succ]))
          refine Fx.store_ (fun w' => w'.setCell ⟨g, j', none⟩ (.int .i64 x)) (by rfl) ?_ ?_ ?_
          · intro f w' hD hk
            obtain ⟨h1, h2, h3⟩ := id hD
            obtain ⟨k, rfl⟩ := h2 (hk.2.2.1 15 (by kernel_rfl)) hk.1
            clear h1 h2 h3
            clear hk hD
            go_simp
          · intro f w' hD hk
            obtain ⟨h1, h2, h3⟩ := id hD
            obtain ⟨k, rfl⟩ := h2 (hk.2.2.1 15 (by kernel_rfl)) hk.1
            clear h1 h2 h3
            exact ⟨fun _ h => by simp [Fx.add] at h, fun _ h => by simp [Fx.add] at h, fun _ => ⟨k, rfl⟩⟩
          simp only [Act.put, List.setIfInBounds_toArray, List.set_cons_zero, List.set_cons_succ]
          refine Fx.nil_ ?_
          intro f w1 hall hD
          have hf17 := hall 17 (by simp)
          obtain ⟨_, _, h3⟩ := hD
          simp only [hf17, if_true] at *
          obtain ⟨kk, rfl⟩ := h3 (by first | rfl | trivial)
          clear h3
          have hfin : Blk (((w3.drewN kk).setCell ⟨g, j, none⟩ (.int .i64 y)).setCell ⟨g, j', none⟩ (.int .i64 x)) g 3 (intsO (insAtI p x j' ++ L.drop (i + 1)) ++ ext).toArray := by
            have h1 := ((Blk.drewN HB3.out kk).set_ j (.int .i64 y)).set_ j' (.int .i64 x)
            have hlen : j' + 1 < (insAtI p x (j' + 1) ++ L.drop (i + 1)).length := by rw [List.length_append, insAt_len_I (by rw [HP.out]; have := HJJ.out; omega), HP.out]; have := HJJ.out; omega
            rw [← HSW.out, intsO_set2 hlen (by omega), HJJ.out]
            simpa using h1
          have HF := Lib.hid hfin
          clear hfin
          go_wp2
          go_roundw
          case rel => exact ⟨j', by have := HJJ.out; omega, by go_num, only_setCell (only_setCell (only_drewN HG3.out kk) (p := ⟨g, j, none⟩) (.inl rfl) _) (p := ⟨g, j', none⟩) (.inl rfl) _, HF.out, HNEXT.out⟩
          case measure => simp [intOf]; have := HJJ.out; omega
        | false =>
          have hnext : insFI ltO p x i = insAtI p x j := by rw [HRES.out, ← HJJ.out, HINS.out, if_neg (by simp)]
          have hfin : Blk w3 g 3 (intsO (sortFI ltO (L.take (i + 1)) ++ L.drop (i + 1)) ++ ext).toArray := by rw [HNX.out, hnext]; exact HB3.out
          have HF := Lib.hid hfin
          clear hfin hnext
          go_wp2
          go_roundw
          case rel => exact ⟨i + 1, by omega, by omega, by go_num, HG3.out, HF.out⟩
          case measure => simp [intOf]; omega
end Go.Proofs.Ytmejiafmmmeloaa

end

section
/- slices.Sort of few numbers. -/
namespace Go.Proofs.Ytmejiafmmmeloaa
open Go Go.RowKit

theorem own_open {w : World} {B n c : Nat} {e : TypeId} {A : Option Addr} {xs : List Value} (h : w.ownsRow B e 1 (.slice A n c) n xs) (hn : 1 ≤ n) : ∃ g ext, A = some ⟨g, 0, none⟩ ∧ B ≤ g ∧ Blk w g e (xs ++ ext).toArray ∧ xs.length = n ∧ n ≤ c ∧ c ≤ maxLen ∧ (xs ++ ext).length = c := by
  obtain ⟨hl, h | ⟨g, cap, cur, h1, hb, hg, hnc, hcm, hcs, ht⟩⟩ := h
  · omega
  · obtain ⟨rfl, rfl⟩ : A = some ⟨g, 0, none⟩ ∧ c = cap := by simpa using h1
    rw [Nat.mul_one] at hl hcs ht
    have e1 : xs ++ cur.toList.drop n = cur.toList := by rw [← ht, List.take_append_drop]
    refine ⟨g, cur.toList.drop n, rfl, hb, ?_, hl, hnc, hcm, ?_⟩
    · rw [e1]; exact hg
    · rw [e1]; simpa using hcs
theorem own_close {w : World} {B n c g : Nat} {e : TypeId} {xs ext : List Value} (hb : B ≤ g) (h : Blk w g e (xs ++ ext).toArray) (hl : xs.length = n) (hnc : n ≤ c) (hcm : c ≤ maxLen) (hcs : (xs ++ ext).length = c) : w.ownsRow B e 1 (.slice (some ⟨g, 0, none⟩) n c) n xs :=
  ⟨by rw [Nat.mul_one]; exact hl, .inr ⟨g, c, (xs ++ ext).toArray, rfl, hb, h, hnc, hcm, by simpa using hcs, by rw [Nat.mul_one, ← hl]; simp⟩⟩
set_option maxRecDepth 100000 in
theorem len64_any (n : Nat) (hn : n ≤ 12) (w : World) : Calls Try.prog 66 #[.int .u64 n] w fun e w' => (∃ v, e = .returned (.int .i64 v)) ∧ w = w' := by
  have hc : n = 0 ∨ n = 1 ∨ n = 2 ∨ n = 3 ∨ n = 4 ∨ n = 5 ∨ n = 6 ∨ n = 7 ∨ n = 8 ∨ n = 9 ∨ n = 10 ∨ n = 11 ∨ n = 12 := by omega
  rcases hc with rfl | rfl | rfl | rfl | rfl | rfl | rfl | rfl | rfl | rfl | rfl | rfl | rfl
  all_goals
    go_enter Try.func66, Try.ntmps66
    go_wp2
    go_ret
    exact ⟨⟨_, rfl⟩, rfl⟩
theorem len_any (n : Nat) (hn : n ≤ 12) (w : World) : Calls Try.prog 48 #[.int .u64 n] w fun e w' => (∃ v, e = .returned (.int .i64 v)) ∧ w = w' := by
  go_enter Try.func48, Try.ntmps48
  go_wp2_with fail
  refine (len64_any n hn _).mono ?_
  rintro e w' ⟨⟨v, rfl⟩, rfl⟩
  go_wp2
  go_ret
  exact ⟨⟨_, rfl⟩, rfl⟩
theorem pdq_any (g n c : Nat) (v : Int) (L : List Int) (ext : List Value) (hL : L.length = n) (hn : n ≤ 12) (w : World) (hb : Blk w g 3 (intsO L ++ ext).toArray) :
    Calls Try.prog 47 #[.slice (some ⟨g, 0, none⟩) n c, .int .i64 0, .int .i64 (n : Int), .int .i64 v] w fun e w' => e = .returned (.tuple #[]) ∧ w.grownBy w' (some g) ∧ Blk w' g 3 (intsO (sortFI ltO L) ++ ext).toArray := by
  have HI := Lib.hid (insorto_any g n c L ext hL (by omega) w hb)
  have d1 : decide ((n : Int) ≤ 12) = true := by simp; omega
  have e1 := IntWalk.i64_in (n : Int) ⟨by omega, by omega⟩
  clear hL hb
  go_enter Try.func47, Try.ntmps47
  go_wp2_with fail
  refine wp_loop_rounds 1 ?_
  rw [rounds_succ]
  go_wp2_with fail
  refine HI.out.mono ?_
  rintro e w1 ⟨rfl, h1, h2⟩
  have H1 := Lib.hid h1
  have H2 := Lib.hid h2
  clear h1 h2
  go_wp2
  first | go_ret | exact bodyPost_ret (v := .tuple #[]) (by simp [results, Try.results47, go_sem]) rfl ⟨rfl, H1.out, H2.out⟩
  try exact ⟨rfl, H1.out, H2.out⟩
theorem sort_is (B : Nat) (A : Option Addr) (n c : Nat) (L : List Int) (hn : 1 ≤ n ∧ n ≤ 12) (w : World) (ho : w.ownsRow B 3 1 (.slice A n c) n (intsO L)) :
    Calls Try.prog 33 #[.slice A n c] w fun e w' => e = .returned (.tuple #[]) ∧ Below B w w' ∧ w'.ownsRow B 3 1 (.slice A n c) n (intsO (sortFI ltO L)) := by
  obtain ⟨g, ext, rfl, hg, hb, hl, hnc, hcm, hcs⟩ := own_open ho hn.1
  have hL : L.length = n := by rw [intsO_len] at hl; exact hl
  have hgl := hb.lt
  have HP := Lib.hid (fun v => pdq_any g n c v L ext hL hn.2 w hb)
  have e1 : IntKind.u64.wrap (n : Int) = (n : Int) := by show (n : Int) % 2 ^ 64 = n; exact Int.emod_eq_of_lt (by omega) (by omega)
  clear ho hb hl
  go_enter Try.func33, Try.ntmps33
  go_wp2_with fail
  refine (len_any n hn.2 _).mono ?_
  rintro e w' ⟨⟨v, rfl⟩, rfl⟩
  go_wp2_with fail
  refine (HP.out v).mono ?_
  rintro e w1 ⟨rfl, h1, h2⟩
  have H1 := Lib.hid (show Below B w w1 from ⟨h1.os, h1.tape, h1.output, h1.size, fun k hk => h1.block k (by omega) (by simp; omega)⟩)
  have H2 := Lib.hid (show w1.ownsRow B 3 1 (.slice (some ⟨g, 0, none⟩) n c) n (intsO (sortFI ltO L)) from own_close hg h2 (by rw [intsO_len, sortF_len_I]; exact hL) hnc hcm (by rw [List.length_append, intsO_len] at hcs ⊢; rw [sortF_len_I]; exact hcs))
  clear h1 h2
  go_wp2
  go_end0
  exact ⟨rfl, H1.out, H2.out⟩
end Go.Proofs.Ytmejiafmmmeloaa

end
