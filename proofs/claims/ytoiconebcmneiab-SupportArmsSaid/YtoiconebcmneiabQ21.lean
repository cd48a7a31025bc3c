import Derived.Test.YtoiconebcmneiabQ18
import Derived.Test.YtoiconebcmneiabQ19
import Derived.Test.YtoiconebcmneiabQ20

section
/- The contracts of the arms that balance loads. -/
namespace Go.Proofs.Ytoiconebcmneiab
open Go Go.RowKit

theorem arms1_call (z : Int) (t : Bool) (ht : withinB z 1 1000000 = t) (w : World) : Calls Try.prog 60 #[.int .i64 z] w fun e w' => e = .returned (.bool (!t)) ∧ w = w' := by
  have HT := Lib.hid ht
  clear ht
  go_enter Try.func60, Try.ntmps60
  go_wp2_with fail
  refine (withinsup_is _ _ _ t HT.out _).mono ?_
  rintro e w' ⟨rfl, rfl⟩
  go_wp2
  go_ret
  exact ⟨rfl, rfl⟩
theorem arms1_asks : Asks 60 (fun z => !(withinB z 1 1000000)) where
  ent := enters_of Try.func60 (by kernel_rfl) rfl
  call := fun z w => arms1_call z _ rfl w

theorem eq_nil_rks (A : Option Addr) (n c : Nat) (w : World) : (Op.equalIn 10000 23 (.slice A n c) (.slice none 0 0)).run Try.prog w = .ok A.isNone w := by
  show (Op.equalIn (9999 + 1) _ _ _).run _ w = _
  rw [Op.equalIn.eq_def]
  cases A <;> simp [Sem.run_bind, run_underlying Try.underlying23]
@[go_sem ↓ high] theorem eql_nil_rks (A : Option Addr) (n c : Nat) (w : World) : (binOp .eql 23 (.slice A n c) (.slice none 0 0)).run Try.prog w = .ok (.bool A.isNone) w := by
  simp only [binOp]
  simp [Op.equal, Op.maxDepth, eq_nil_rks]
set_option maxRecDepth 100000 in
theorem cloner_any (A : Option Addr) (n c N : Nat) (l : List Rk) (w : World) (hx : Reads w N 5 A n (rkCells l)) (hN : N ≤ w.heap.size) (hn : n ≤ 100000) :
    Calls Try.prog 61 #[.slice A n c] w (CopyPost w 90 5 n (rkCells l)) := by
  cases A with
  | none =>
    have hn0 : n = 0 := by
      rcases Nat.eq_zero_or_pos n with h | h
      · exact h
      · obtain ⟨_, _, e, _⟩ := hx.2 h
        cases e
    subst hn0
    have hl : rkCells l = [] := List.length_eq_zero_iff.1 (by simpa using hx.1)
    have HL := Lib.hid hl
    clear hx hl
    go_enter Try.func61, Try.ntmps61
    go_wp2
    go_ret
    exact ⟨none, 0, rfl, Below.refl _ _, by rw [HL.out]; exact Reads.none_, by rw [HL.out]; exact World.ownsRow_nil _ _ _ _⟩
  | some a =>
    obtain ⟨v', W2, hrun, ho, hb⟩ := copy_run (P := Try.prog) 23 23 90 _ 5 64 Try.underlying23 info_rk rfl (by omega) w N (some a) n c (rkCells l) hx hN (one_rk l) (by unfold maxLen; omega) (by omega)
    have HRUN := Lib.hid hrun
    have HO := Lib.hid ho
    have HB := Lib.hid hb
    clear hrun ho hb hx
    go_enter Try.func61, Try.ntmps61
    go_wp2_with (first | (at_builtin; refine wpList_app _ W2 v' rfl _ _ _ rfl _ _ rfl rfl HRUN.out ?_))
    go_ret
    exact CopyPost.of HO.out HB.out

/-- A fresh list of rockers lies in a block of its own. -/
theorem own_block {w : World} {base n c : Nat} {A : Option Addr} {l : List Rk} (h : w.ownsRow base 90 5 (.slice A n c) n (rkCells l)) (hn : 0 < n) :
    ∃ g ext, A = some ⟨g, 0, none⟩ ∧ base ≤ g ∧ n ≤ c ∧ Blk w g 90 (rkCells l ++ ext).toArray := by
  rcases h.2 with ⟨_, e⟩ | ⟨g, cap, cur, hv, hb, hh, hc, -, hs, ht⟩
  · omega
  · obtain ⟨rfl, -, rfl⟩ : A = some ⟨g, 0, none⟩ ∧ n = n ∧ c = cap := by simpa using hv
    refine ⟨g, cur.toList.drop (n * 5), rfl, hb, hc, ?_⟩
    unfold Blk
    rw [hh, ← ht, List.take_append_drop, Array.toArray_toList]
theorem rkCells_five : ∀ L : List Rk, (rkCells L).length = L.length * 5
  | [] => rfl
  | x :: L => by rw [show rkCells (x :: L) = x.cells ++ rkCells L from rfl, List.length_append, rkCells_five L]; simp [Rk.cells]; omega
theorem rk_store {L : List Rk} {ext : List Value} {k : Nat} {r : Rk} {a b : Int} (h : L[k]? = some r) :
    ((rkCells L ++ ext).toArray.setIfInBounds (k * 5 + 3) (.int .i64 a)).setIfInBounds (k * 5 + 4) (.int .i64 b) = (rkCells (L.set k { r with al := a, ar := b }) ++ ext).toArray := by
  have hk := (List.getElem?_eq_some_iff.1 h).1
  have hl := rkCells_five L
  rw [List.setIfInBounds_toArray, List.setIfInBounds_toArray, List.set_append_left _ _ (by omega), List.set_append_left _ _ (by rw [List.length_set]; omega), rkCells_set _ _ _ _ _ h]
theorem Blk.reads_pre {w : World} {g n size : Nat} {t : TypeId} {xs ext : List Value} (h : Blk w g t (xs ++ ext).toArray) (hl : xs.length = n * size) : Reads w w.heap.size size (some ⟨g, 0, none⟩) n xs :=
  ⟨hl, fun _ => ⟨g, 0, rfl, h.lt, fun j u hu => by
    rw [Nat.zero_add, h.cell j]
    have := (List.getElem?_eq_some_iff.1 hu).1
    simp [List.getElem?_append_left this, hu]⟩⟩
theorem gcd_is (a b t : Int) (ht : (Int.gcd a b : Int) = t) (w : World) (h1 : 0 ≤ a) (h2 : a ≤ 1000000000000) (h3 : 1 ≤ b) (h4 : b ≤ 1000000000000) :
    Calls Try.prog 63 #[.int .i64 a, .int .i64 b] w fun e w' => e = .returned (.int .i64 t) ∧ ∃ n, w' = w.drewN n := by
  have h := gcdsup_any a b w (by omega) (by omega) (by omega) (by omega)
  have hg : (Int.gcd a b : Int) ≤ b := Int.le_of_dvd (by omega) (Int.gcd_dvd_right a b)
  rw [IntWalk.wrap64_in _ ⟨by omega, by omega⟩, ht] at h
  exact h

theorem arms_bad (l : List Rk) (hfits : ∀ r ∈ l, r.Fits) (A : Option Addr) (n c : Nat) (B : Option Addr) (m cb : Nat) (E : Int) (w : World) (hx : Reads w w.heap.size 5 A n (rkCells l)) (hn : n ≤ 100000) (hE : openErr l = E) (h0 : E ≠ 0) :
    Calls Try.prog 19 #[.slice A n c, .slice B m cb] w fun e w' => e = .returned (.tuple #[.slice none 0 0, .int .i64 E]) ∧ Below w.heap.size w w' := by
  have e1 : (E != 0) = true := by simpa using h0
  have H0 := Lib.hid h0
  have HE := Lib.hid hE
  clear h0 hE
  go_enter Try.func19, Try.ntmps19
  have R0_0 := Lib.hid hx
  clear hx
  go_wp2_with fail
  refine (forpoints_bad l hfits A n c (m : Int) E _ R0_0.out hn HE.out H0.out).mono ?_
  rintro e w1 ⟨rfl, hb⟩
  have HB1 := Lib.hid (show Below w.heap.size w w1 from step_below hb (by repeat' (first | exact Below.refl _ _ | exact HB0.out | refine below_drewN ?_ _ | refine Below.drew ?_ | refine Below.alloc ?_ (by first | omega | (simp; done) | (simp; omega) | (simp [World.setCell]; omega)) _ | refine Below.setCell ?_ (by first | omega | (simp; done) | (simp; omega)) _ | assumption)))
  have hL1 := Lib.hid (show Below w.heap.size w _ from reads_mid hb (by repeat' (first | exact Below.refl _ _ | refine below_drewN ?_ _ | refine Below.drew ?_ | refine Below.alloc ?_ (by first | omega | (simp; done) | (simp; omega) | (simp [World.setCell]; omega)) _ | refine Below.setCell ?_ (by first | omega | (simp; done) | (simp; omega)) _)))
  have R0_1 := Lib.hid (reads_lay hb hL1.out R0_0.out)
  clear hL1 R0_0
  have hz1 := hb.size
  try simp only [World.size_alloc, World.drewN, World.drew] at hz1
  clear hb
  go_wp2
  go_ret2
  refine ⟨rfl, ?_⟩
  repeat' (first | exact Below.refl _ _ | exact HB1.out | refine below_drewN ?_ _ | refine Below.drew ?_ | refine Below.alloc ?_ (by first | omega | (simp; done) | (simp; omega) | (simp [World.setCell]; omega)) _ | refine Below.setCell ?_ (by first | omega | (simp; done) | (simp; omega)) _ | assumption)

theorem arms_err (l : List Rk) (hfits : ∀ r ∈ l, r.Fits) (A : Option Addr) (n c : Nat) (B : Option Addr) (m cb : Nat) (xs : List Int) (w : World) (hx : Reads w w.heap.size 5 A n (rkCells l)) (hn : n ≤ 100000) (hy : Reads w w.heap.size 1 B m (xs.map (.int .i64))) (hm : m ≤ 1000000) (h0 : openErr l = 0) (ps : List ByteArray) (hp : ptsOf l = some ps) (hps : ps.length ≤ 1000000) (E : Int) (hE : armsErr ps.length xs = E) (hE0 : E ≠ 0) :
    Calls Try.prog 19 #[.slice A n c, .slice B m cb] w fun e w' => e = .returned (.tuple #[.slice none 0 0, .int .i64 E]) ∧ Below w.heap.size w w' := by
  have hxl : xs.length = m := by have := hy.1; simpa using this
  have H0 := Lib.hid h0
  have HP := Lib.hid hp
  by_cases hmn : ps.length = m
  rotate_left
  · have e : E = 10 := by rw [← hE]; unfold armsErr; rw [if_pos (by omega)]
    subst e
    have HMN := Lib.hid hmn
    clear hmn hp h0 hE
    go_enter Try.func19, Try.ntmps19
    have R0_0 := Lib.hid hx
    clear hx
    go_wp2_with fail
    refine (forpoints_no l hfits A n c m _ R0_0.out hn H0.out ps HP.out hps HMN.out).mono ?_
    rintro e w1 ⟨rfl, hb⟩
    have HB1 := Lib.hid (show Below w.heap.size w w1 from step_below hb (by repeat' (first | exact Below.refl _ _ | exact HB0.out | refine below_drewN ?_ _ | refine Below.drew ?_ | refine Below.alloc ?_ (by first | omega | (simp; done) | (simp; omega) | (simp [World.setCell]; omega)) _ | refine Below.setCell ?_ (by first | omega | (simp; done) | (simp; omega)) _ | assumption)))
    have hL1 := Lib.hid (show Below w.heap.size w _ from reads_mid hb (by repeat' (first | exact Below.refl _ _ | refine below_drewN ?_ _ | refine Below.drew ?_ | refine Below.alloc ?_ (by first | omega | (simp; done) | (simp; omega) | (simp [World.setCell]; omega)) _ | refine Below.setCell ?_ (by first | omega | (simp; done) | (simp; omega)) _)))
    have R0_1 := Lib.hid (reads_lay hb hL1.out R0_0.out)
    clear hL1 R0_0
    have hz1 := hb.size
    try simp only [World.size_alloc, World.drewN, World.drew] at hz1
    clear hb
    go_wp2
    go_ret2
    refine ⟨rfl, ?_⟩
    repeat' (first | exact Below.refl _ _ | exact HB1.out | refine below_drewN ?_ _ | refine Below.drew ?_ | refine Below.alloc ?_ (by first | omega | (simp; done) | (simp; omega) | (simp [World.setCell]; omega)) _ | refine Below.setCell ?_ (by first | omega | (simp; done) | (simp; omega)) _ | assumption)
  · have hany : xs.any (fun z => !(withinB z 1 1000000)) = true := by
      cases ha : xs.any (fun z => !(withinB z 1 1000000)) with
      | true => rfl
      | false =>
        unfold armsErr at hE
        rw [if_neg (by omega), ha, if_neg (by simp)] at hE
        exact absurd hE.symm hE0
    have e : E = 2 := by rw [← hE]; unfold armsErr; rw [if_neg (by omega), hany]; rfl
    subst e
    have HMN := Lib.hid hmn
    have HANY := Lib.hid hany
    clear hmn hp h0 hE hany
    go_enter Try.func19, Try.ntmps19
    have R0_0 := Lib.hid hx
    clear hx
    have R1_0 := Lib.hid hy
    clear hy
    go_wp2_with fail
    refine (forpoints_ok l hfits A n c m _ R0_0.out hn H0.out ps HP.out hps HMN.out).mono ?_
    rintro e w1 ⟨hb, tb, mb, rfl, -⟩
    have HB1 := Lib.hid (show Below w.heap.size w w1 from step_below hb (by repeat' (first | exact Below.refl _ _ | exact HB0.out | refine below_drewN ?_ _ | refine Below.drew ?_ | refine Below.alloc ?_ (by first | omega | (simp; done) | (simp; omega) | (simp [World.setCell]; omega)) _ | refine Below.setCell ?_ (by first | omega | (simp; done) | (simp; omega)) _ | assumption)))
    have hL1 := Lib.hid (show Below w.heap.size w _ from reads_mid hb (by repeat' (first | exact Below.refl _ _ | refine below_drewN ?_ _ | refine Below.drew ?_ | refine Below.alloc ?_ (by first | omega | (simp; done) | (simp; omega) | (simp [World.setCell]; omega)) _ | refine Below.setCell ?_ (by first | omega | (simp; done) | (simp; omega)) _)))
    have R0_1 := Lib.hid (reads_lay hb hL1.out R0_0.out)
    have R1_1 := Lib.hid (reads_lay hb hL1.out R1_0.out)
    clear hL1 R0_0 R1_0
    have hz1 := hb.size
    try simp only [World.size_alloc, World.drewN, World.drew] at hz1
    clear hb
    go_wp2_with fail
    refine (containsfunc_any _ _ arms1_asks B m cb _ xs _ R1_1.out (Nat.le_refl _) (by omega) true HANY.out).mono ?_
    rintro e w2 ⟨rfl, hb⟩
    have HB2 := Lib.hid (show Below w.heap.size w w2 from step_below hb (by repeat' (first | exact Below.refl _ _ | exact HB1.out | refine below_drewN ?_ _ | refine Below.drew ?_ | refine Below.alloc ?_ (by first | omega | (simp; done) | (simp; omega) | (simp [World.setCell]; omega)) _ | refine Below.setCell ?_ (by first | omega | (simp; done) | (simp; omega)) _ | assumption)))
    have hL2 := Lib.hid (show Below w1.heap.size w1 _ from reads_mid hb (by repeat' (first | exact Below.refl _ _ | refine below_drewN ?_ _ | refine Below.drew ?_ | refine Below.alloc ?_ (by first | omega | (simp; done) | (simp; omega) | (simp [World.setCell]; omega)) _ | refine Below.setCell ?_ (by first | omega | (simp; done) | (simp; omega)) _)))
    have R0_2 := Lib.hid (reads_lay hb hL2.out R0_1.out)
    have R1_2 := Lib.hid (reads_lay hb hL2.out R1_1.out)
    clear hL2 R0_1 R1_1
    have hz2 := hb.size
    try simp only [World.size_alloc, World.drewN, World.drew] at hz2
    clear hb
    go_wp2
    go_ret2
    refine ⟨rfl, ?_⟩
    repeat' (first | exact Below.refl _ _ | exact HB2.out | refine below_drewN ?_ _ | refine Below.drew ?_ | refine Below.alloc ?_ (by first | omega | (simp; done) | (simp; omega) | (simp [World.setCell]; omega)) _ | refine Below.setCell ?_ (by first | omega | (simp; done) | (simp; omega)) _ | assumption)

/-- What the arms are, or that they are too long. -/
def ArmsPost (l : List Rk) (S : List (Int × Int)) (n : Nat) (w : World) (e : Ending) (w' : World) : Prop :=
  Below w.heap.size w w' ∧ ((S.any bigA = true ∧ e = .returned (.tuple #[.slice none 0 0, .int .i64 8])) ∨ (S.any bigA = false ∧ ∃ A' c', e = .returned (.tuple #[.slice A' n c', .int .i64 0]) ∧ Reads w' w'.heap.size 5 A' n (rkCells (List.zipWith armR l S))))

theorem arms_parts {np : Nat} {xs : List Int} (hE : armsErr np xs = 0) : np = xs.length ∧ xs.any (fun z => !(withinB z 1 1000000)) = false ∧ ∀ z ∈ xs, 1 ≤ z ∧ z ≤ 1000000 := by
  unfold armsErr at hE
  by_cases h : xs.length ≠ np
  · rw [if_pos h] at hE; cases hE
  · rw [if_neg h] at hE
    cases ha : xs.any (fun z => !(withinB z 1 1000000)) with
    | true => rw [ha] at hE; cases hE
    | false =>
      refine ⟨by omega, rfl, fun z hz => ?_⟩
      have := List.any_eq_false.1 ha z hz
      have h2 : withinB z 1 1000000 = true := by simpa using this
      exact (withinB_iff _ _ _).1 h2

/-- Each side bears something. -/
theorem side_pos {l : List Rk} (h0 : openErr l = 0) {ps : List ByteArray} (hp : ptsOf l = some ps) {xs : List Int} (hl : ps.length = xs.length) (hxs : ∀ z ∈ xs, 1 ≤ z ∧ z ≤ 1000000) {i : Nat} {r : Rk} (hr : l[i]? = some r) {s : ByteArray} (hs : r.left = s ∨ r.right = s) : 1 ≤ underI l ps xs s := by
  have hall : ∀ x ∈ below_ l s, 1 ≤ loadOf ps xs x := fun x hx => by
    have hx2 : x ∈ ps := by
      have := below_side h0 hr hs x hx
      have h2 := below_pts h0 (topName l)
      unfold ptsOf at hp
      rw [hp] at h2
      rwa [← Option.some.inj h2] at this
    obtain ⟨j, hj⟩ := posOf_mem hx2
    unfold loadOf
    rw [hj]
    simp only
    have hjl := (List.getElem?_eq_some_iff.1 (posOf_some hj).1).1
    rw [List.getD, List.getElem?_eq_getElem (by omega)]
    exact (hxs _ (List.getElem_mem _)).1
  have hlen := (pts_len _ _ _ (below_pts h0 s)).1
  unfold underI
  have key : ∀ (qs : List ByteArray) (t : Int), (∀ x ∈ qs, 1 ≤ loadOf ps xs x) → t + qs.length ≤ qs.foldl (fun t s => t + loadOf ps xs s) t := by
    intro qs
    induction qs with
    | nil => intro t _; simp
    | cons q qs ih =>
      intro t h
      have h1 := ih (t + loadOf ps xs q) fun x hx => h x (by simp [hx])
      have h2 := h q (by simp)
      rw [List.foldl_cons, List.length_cons]
      push_cast
      omega
  have := key (below_ l s) 0 hall
  unfold sumF
  omega

set_option maxRecDepth 100000 in
set_option maxHeartbeats 2000000 in
theorem arms_two (l : List Rk) (hfits : ∀ r ∈ l, r.Fits) (A : Option Addr) (n c : Nat) (B : Option Addr) (m cb : Nat) (xs : List Int) (w : World) (hx : Reads w w.heap.size 5 A n (rkCells l)) (hn : n ≤ 1000) (hy : Reads w w.heap.size 1 B m (xs.map (.int .i64))) (hm : m ≤ 1000000) (h0 : openErr l = 0) (ps : List ByteArray) (hp : ptsOf l = some ps) (hps : ps.length ≤ 1000000) (hbl : ∀ s, (below_ l s).length ≤ 1000000) (hE : armsErr ps.length xs = 0) :
    Calls Try.prog 19 #[.slice A n c, .slice B m cb] w (ArmsPost l (sidesOf l ps xs) n w) := by
  have hxl : xs.length = m := by have := hy.1; simpa using this
  have hln := hx.len5
  obtain ⟨hmx, hany, hxs⟩ := arms_parts hE
  have hmn : ps.length = m := by omega
  have hxs0 : ∀ z ∈ xs, 0 ≤ z ∧ z ≤ 1000000 := fun z hz => by have := hxs z hz; omega
  have hside := fun (i : Nat) (r : Rk) (hr : l[i]? = some r) => And.intro (side_pos h0 hp hmx hxs hr (s := r.left) (.inl rfl)) (side_pos h0 hp hmx hxs hr (s := r.right) (.inr rfl))
  obtain ⟨z0, -⟩ := open_zero h0
  have hnp : 0 < n := by omega
  have htop := Lib.hid (topOf_lt z0)
  have H0 := Lib.hid h0
  have HP := Lib.hid hp
  have HMN := Lib.hid hmn
  have HANY := Lib.hid hany
  have HLN := Lib.hid hln
  have HSIDE := Lib.hid hside
  have hsl : (sidesOf l ps xs).length = n := by unfold sidesOf; rw [List.length_map, hln]
  have HSL := Lib.hid hsl
  clear hp h0 hE hany hmn hmx hxl hln z0 hsl hside
  go_enter Try.func19, Try.ntmps19
  have R0_0 := Lib.hid hx
  clear hx
  have R1_0 := Lib.hid hy
  clear hy
  go_wp2_with fail
  refine (forpoints_ok l hfits A n c m _ R0_0.out (by omega) H0.out ps HP.out hps HMN.out).mono ?_
  rintro e w1 ⟨hb, tb, mb, rfl, ht⟩
  have HB1 := Lib.hid (show Below w.heap.size w w1 from step_below hb (by repeat' (first | exact Below.refl _ _ | exact HB0.out | refine below_drewN ?_ _ | refine Below.drew ?_ | refine Below.alloc ?_ (by first | omega | (simp; done) | (simp; omega) | (simp [World.setCell]; omega)) _ | refine Below.setCell ?_ (by first | omega | (simp; done) | (simp; omega)) _ | assumption)))
  have hL1 := Lib.hid (show Below w.heap.size w _ from reads_mid hb (by repeat' (first | exact Below.refl _ _ | refine below_drewN ?_ _ | refine Below.drew ?_ | refine Below.alloc ?_ (by first | omega | (simp; done) | (simp; omega) | (simp [World.setCell]; omega)) _ | refine Below.setCell ?_ (by first | omega | (simp; done) | (simp; omega)) _)))
  have R0_1 := Lib.hid (reads_lay hb hL1.out R0_0.out)
  have R1_1 := Lib.hid (reads_lay hb hL1.out R1_0.out)
  clear hL1 R0_0 R1_0
  have hz1 := hb.size
  try simp only [World.size_alloc, World.drewN, World.drew] at hz1
  clear hb
  have HT := Lib.hid ht
  clear ht
  go_wp2_with fail
  refine (containsfunc_any _ _ arms1_asks B m cb _ xs _ R1_1.out (Nat.le_refl _) (by omega) false HANY.out).mono ?_
  rintro e w2 ⟨rfl, hb2⟩
  have HT2 := Lib.hid ((HT.out.below hb2).more hb2.size)
  have HB2 := Lib.hid (show Below w.heap.size w w2 from step_below hb2 (by repeat' (first | exact Below.refl _ _ | exact HB1.out | refine below_drewN ?_ _ | refine Below.drew ?_ | refine Below.alloc ?_ (by first | omega | (simp; done) | (simp; omega) | (simp [World.setCell]; omega)) _ | refine Below.setCell ?_ (by first | omega | (simp; done) | (simp; omega)) _ | assumption)))
  have hL2 := Lib.hid (show Below w1.heap.size w1 _ from reads_mid hb2 (by repeat' (first | exact Below.refl _ _ | refine below_drewN ?_ _ | refine Below.drew ?_ | refine Below.alloc ?_ (by first | omega | (simp; done) | (simp; omega) | (simp [World.setCell]; omega)) _ | refine Below.setCell ?_ (by first | omega | (simp; done) | (simp; omega)) _)))
  have R0_2 := Lib.hid (reads_lay hb2 hL2.out R0_1.out)
  have R1_2 := Lib.hid (reads_lay hb2 hL2.out R1_1.out)
  clear hL2 R0_1 R1_1
  have hz2 := hb2.size
  try simp only [World.size_alloc, World.drewN, World.drew] at hz2
  clear hb2
  clear HT
  have hb2s := HB2.out.size
  go_wp2_with fail
  refine (cloner_any A n c _ l _ R0_2.out (Nat.le_refl _) (by omega)).mono ?_
  rintro e w3 ⟨A3, c3, rfl, hb, -, ho⟩
  obtain ⟨g, ext, rfl, hg, hnc, hblk⟩ := own_block ho hnp
  have hgl := hblk.lt
  have HBLK := Lib.hid hblk
  have HT3 := Lib.hid ((HT2.out.below hb).more hb.size)
  clear ho hblk
  have hbx3 := hb
  have HB3 := Lib.hid (show Below w.heap.size w w3 from step_below hb (by repeat' (first | exact Below.refl _ _ | exact HB2.out | refine below_drewN ?_ _ | refine Below.drew ?_ | refine Below.alloc ?_ (by first | omega | (simp; done) | (simp; omega) | (simp [World.setCell]; omega)) _ | refine Below.setCell ?_ (by first | omega | (simp; done) | (simp; omega)) _ | assumption)))
  have hL3 := Lib.hid (show Below w2.heap.size w2 _ from reads_mid hb (by repeat' (first | exact Below.refl _ _ | refine below_drewN ?_ _ | refine Below.drew ?_ | refine Below.alloc ?_ (by first | omega | (simp; done) | (simp; omega) | (simp [World.setCell]; omega)) _ | refine Below.setCell ?_ (by first | omega | (simp; done) | (simp; omega)) _)))
  have R0_3 := Lib.hid (reads_lay hb hL3.out R0_2.out)
  have R1_3 := Lib.hid (reads_lay hb hL3.out R1_2.out)
  clear hL3 R0_2 R1_2
  have hz3 := hb.size
  try simp only [World.size_alloc, World.drewN, World.drew] at hz3
  clear hb
  clear HT2
  have hb3s := HB3.out.size
  go_wp2_with fail
  refine (sums_any l hfits H0.out A n c tb mb hn ps HP.out hps B m cb xs HMN.out.symm hxs0 hbl _ HT3.out R1_3.out).mono ?_
  rintro e w4 ⟨hb, A4, c4, rfl, hr4, hfr⟩
  have HR4 := Lib.hid hr4
  have HFR := Lib.hid hfr
  have HBLK4 := Lib.hid (HBLK.out.below hb hgl)
  have hbx4 := hb
  have HB4 := Lib.hid (show Below w.heap.size w w4 from step_below hb (by repeat' (first | exact Below.refl _ _ | exact HB3.out | refine below_drewN ?_ _ | refine Below.drew ?_ | refine Below.alloc ?_ (by first | omega | (simp; done) | (simp; omega) | (simp [World.setCell]; omega)) _ | refine Below.setCell ?_ (by first | omega | (simp; done) | (simp; omega)) _ | assumption)))
  have hL4 := Lib.hid (show Below w3.heap.size w3 _ from reads_mid hb (by repeat' (first | exact Below.refl _ _ | refine below_drewN ?_ _ | refine Below.drew ?_ | refine Below.alloc ?_ (by first | omega | (simp; done) | (simp; omega) | (simp [World.setCell]; omega)) _ | refine Below.setCell ?_ (by first | omega | (simp; done) | (simp; omega)) _)))
  have R0_4 := Lib.hid (reads_lay hb hL4.out R0_3.out)
  have R1_4 := Lib.hid (reads_lay hb hL4.out R1_3.out)
  clear hL4 R0_3 R1_3
  have hz4 := hb.size
  try simp only [World.size_alloc, World.drewN, World.drew] at hz4
  clear hb
  clear HT3 hr4 hfr HBLK
  have hBx : Below w2.heap.size w2 w4 := hbx3.trans (hbx4.mono (by omega))
  have HBX := Lib.hid hBx
  clear hbx3 hbx4 hBx
  have hb4s := HB4.out.size
  go_wp2
  go_loopw [30] (fun i wr => ∃ k : Nat, k ≤ n ∧ i = .int .i64 k ∧ Below w2.heap.size w2 wr ∧ w4.heap.size ≤ wr.heap.size ∧ (∀ b, b ≠ g → b < w4.heap.size → wr.heap[b]? = w4.heap[b]?) ∧
    Blk wr g 90 (rkCells (armsTo l (sidesOf l ps xs) k) ++ ext).toArray ∧ ((sidesOf l ps xs).take k).any bigA = false) (fun i _ => n - (intOf i).toNat)
  case atStart => exact ⟨0, by omega, rfl, HBX.out, Nat.le_refl _, fun _ _ _ => rfl, by rw [armsTo_zero]; exact HBLK4.out, by simp⟩
  case round =>
    obtain ⟨k, hk, rfl, hb, hws, hother, hblk, hbig⟩ := hrel
    have HBR := Lib.hid hb
    have HOT := Lib.hid hother
    have HBK := Lib.hid hblk
    have HBG := Lib.hid hbig
    clear hb hother hblk hbig
    by_cases hlt : k < n
    · obtain ⟨r, hr⟩ : ∃ r, l[k]? = some r := ⟨_, List.getElem?_eq_getElem (by rw [HLN.out]; exact hlt)⟩
      obtain ⟨yb, yo, p, rfl, hyb, hp, d0, d1⟩ := HR4.out.pair hlt
      have hyg : yb ≠ g := by have := HFR.out yb yo rfl; omega
      have e0 := (cell_block (p := ⟨yb, yo + k * 2, none⟩) (HOT.out yb hyg hyb)).trans d0
      have e1 := (cell_block (p := ⟨yb, yo + k * 2 + 1, none⟩) (HOT.out yb hyg hyb)).trans d1
      clear d0 d1
      have hpe : p = (underI l ps xs r.left, underI l ps xs r.right) := by
        unfold sidesOf at hp
        rw [List.getElem?_map, hr] at hp
        exact (Option.some.inj hp).symm
      have hpos := HSIDE.out k r hr
      have hpb : (1 ≤ p.1 ∧ p.1 ≤ 1000000000000) ∧ (1 ≤ p.2 ∧ p.2 ≤ 1000000000000) := by
        have h1 := sumF_bound (g := loadOf ps xs) (b := 1000000) (below_ l r.left) (fun s _ => loadOf_bound (by omega) hxs0 s)
        have h2 := sumF_bound (g := loadOf ps xs) (b := 1000000) (below_ l r.right) (fun s _ => loadOf_bound (by omega) hxs0 s)
        have h3 := hbl r.left
        have h4 := hbl r.right
        rw [hpe]
        unfold underI at hpos ⊢
        refine ⟨⟨hpos.1, ?_⟩, ⟨hpos.2, ?_⟩⟩ <;> simp only <;> omega
      obtain ⟨p1, p2⟩ := p
      simp only at hpb e0 e1
      obtain ⟨⟨b1, b2⟩, b3, b4⟩ := hpb
      have hgp : 0 < (Int.gcd p1 p2 : Int) := by exact_mod_cast Int.gcd_pos_of_ne_zero_left p2 (by omega)
      have hgc : (Int.gcd p2 p1 : Int) = (Int.gcd p1 p2 : Int) := by rw [Int.gcd_comm]
      have t1 : p2.tdiv (Int.gcd p1 p2 : Int) = redN p2 p1 := by rw [tdiv_gcd_right]; unfold redN; rw [hgc]
      have t2 : p1.tdiv (Int.gcd p1 p2 : Int) = redD p2 p1 := by rw [tdiv_gcd_left]; unfold redD; rw [hgc]
      have hle : ∀ x : Int, 1 ≤ x → x ≤ 1000000000000 → 0 ≤ x / (Int.gcd p2 p1 : Int) ∧ x / (Int.gcd p2 p1 : Int) ≤ 1000000000000 := fun x h1 h2 => ⟨Int.ediv_nonneg (by omega) (by omega), Int.le_trans (Int.ediv_le_self _ (by omega)) h2⟩
      have a1 : 0 ≤ redN p2 p1 ∧ redN p2 p1 ≤ 1000000000000 := hle p2 b3 b4
      have a2 : 0 ≤ redD p2 p1 ∧ redD p2 p1 ≤ 1000000000000 := hle p1 b1 b2
      have HBA : Hid (bigA (p1, p2) = (decide (10000 < redN p2 p1) || decide (10000 < redD p2 p1))) := by show _ = _; rfl
      obtain ⟨G, hG⟩ : ∃ G, (Int.gcd p1 p2 : Int) = G := ⟨_, rfl⟩
      obtain ⟨al, hal⟩ : ∃ z, redN p2 p1 = z := ⟨_, rfl⟩
      obtain ⟨ar, har⟩ : ∃ z, redD p2 p1 = z := ⟨_, rfl⟩
      have HSUCC : Hid ((armsTo l (sidesOf l ps xs) k).set k { r with al := al, ar := ar } = armsTo l (sidesOf l ps xs) (k + 1)) := by
        show _ = _
        rw [← armsTo_succ hr hp, ← hal, ← har]; rfl
      have HGET : Hid ((armsTo l (sidesOf l ps xs) k)[k]? = some r) := armsTo_get (by rw [HSL.out, HLN.out]) hr (Nat.le_refl _)
      have HTK : Hid ((sidesOf l ps xs).take (k + 1) = (sidesOf l ps xs).take k ++ [(p1, p2)]) := by
        show _ = _
        rw [List.take_add_one, hp]; rfl
      rw [hG] at t1 t2 hgp
      rw [hal] at t1 a1
      rw [har] at t2 a2
      simp only [hal, har] at HBA
      have HG := Lib.hid hG
      have g0 : ¬ G = 0 := by omega
      have hyr : yb < wr.heap.size := by omega
      have hgr : g < wr.heap.size := by omega
      have hsz : k * 5 + 4 < (rkCells (armsTo l (sidesOf l ps xs) k) ++ ext).toArray.size := by
        rw [List.size_toArray, List.length_append, rkCells_five, armsTo_len (by rw [HSL.out, HLN.out]), HLN.out]; omega
      obtain ⟨cs, hcs⟩ : ∃ cs, (rkCells (armsTo l (sidesOf l ps xs) k) ++ ext).toArray = cs := ⟨_, rfl⟩
      have HCS := Lib.hid hcs
      have HK := Lib.hid (hcs ▸ HBK.out)
      rw [hcs] at hsz
      clear hr hp hpe hpos hgc hle hG hal har HBK hcs
      go_wp2_with fail
      refine (gcd_is p1 p2 G HG.out _ (by omega) (by omega) (by omega) (by omega)).mono ?_
      rintro e w5 ⟨rfl, q, hw⟩
      have hb5 : Below wr.heap.size wr w5 := by rw [hw]; exact below_drewN ((Below.refl _ _).alloc (Nat.le_refl _) _) q
      have k5 : Blk w5 wr.heap.size 83 #[.int .i64 p1, .int .i64 p2] := by rw [hw]; exact Blk.drewN (Blk.new _ _ _) q
      have HB5 := Lib.hid hb5
      have HK5 := Lib.hid (HK.out.below hb5 hgr)
      have f0 := k5.cell 0
      have f1 := k5.cell 1
      have hxg : wr.heap.size ≠ g := by omega
      clear hw hb5 k5 HK
      have qa : IntKind.i64.wrap al = al := IntWalk.i64_in _ ⟨by omega, by omega⟩
      have qr : IntKind.i64.wrap ar = ar := IntWalk.i64_in _ ⟨by omega, by omega⟩
      go_wp2
      refine Fx.regionW (fun W f w' => UpB 90 (g) (cs) (k * 5 + 3) (k * 5 + 4) (.int .i64 al) (.int .i64 ar) 14 17 W f w') (by kernel_rfl) (by kernel_rfl) ?_ ?_
      · intro f hf0
        exact UpB.start (Blk.drewN HK5.out 1) (hf0 14) (hf0 17)
      repeat (first
        | (refine Fx.skip_ (by rfl) (fun f w h => h) ?_; simp only [Act.put, List.setIfInBounds_toArray, List.set_cons_zero, List.set_cons_succ])
        | (refine Fx.val_ ?_ (by rfl) ?_ (fun f w h => h) ?_
           rotate_left
           · intro f w' hD hk
             obtain ⟨hb, ho, hrest⟩ := id hD
             have x0 := (cell_block (p := ⟨wr.heap.size, 0, none⟩) (ho _ hxg)).trans f0
             have x1 := (cell_block (p := ⟨wr.heap.size, 1, none⟩) (ho _ hxg)).trans f1
             clear hk hD hb ho hrest
             go_simp
             try rfl
           simp only [Act.put, List.setIfInBounds_toArray, List.set_cons_zero, List.set_cons_succ]))
      refine Fx.store_ (fun w' => w'.setCell ⟨g, k * 5 + 3, none⟩ (.int .i64 al)) (by rfl) ?_ ?_ ?_
      · intro f w' hD hk
        obtain ⟨hb, ho, hrest⟩ := id hD
        obtain ⟨uq, uf⟩ := UpB.at_ hD (i := k * 5 + 3) (by omega)
        obtain ⟨uv, uq⟩ := uq
        clear hb ho hrest
        clear hk hD
        go_simp
      · intro f w' hD hk
        obtain ⟨hb, ho, hrest⟩ := id hD
        obtain ⟨uq, uf⟩ := UpB.at_ hD (i := k * 5 + 3) (by omega)
        obtain ⟨uv, uq⟩ := uq
        clear hb ho hrest
        exact hD.store0 (by decide) (by omega)
      simp only [Act.put, List.setIfInBounds_toArray, List.set_cons_zero, List.set_cons_succ]
      repeat (first
        | (refine Fx.skip_ (by rfl) (fun f w h => h) ?_; simp only [Act.put, List.setIfInBounds_toArray, List.set_cons_zero, List.set_cons_succ])
        | (refine Fx.val_ ?_ (by rfl) ?_ (fun f w h => h) ?_
           rotate_left
           · intro f w' hD hk
             obtain ⟨hb, ho, hrest⟩ := id hD
             have x0 := (cell_block (p := ⟨wr.heap.size, 0, none⟩) (ho _ hxg)).trans f0
             have x1 := (cell_block (p := ⟨wr.heap.size, 1, none⟩) (ho _ hxg)).trans f1
             clear hk hD hb ho hrest
             go_simp
             try rfl
           simp only [Act.put, List.setIfInBounds_toArray, List.set_cons_zero, List.set_cons_succ]))
      refine Fx.store_ (fun w' => w'.setCell ⟨g, k * 5 + 4, none⟩ (.int .i64 ar)) (by rfl) ?_ ?_ ?_
      · intro f w' hD hk
        obtain ⟨hb, ho, hrest⟩ := id hD
        obtain ⟨uq, uf⟩ := UpB.at_ hD (i := k * 5 + 4) (by omega)
        obtain ⟨uv, uq⟩ := uq
        clear hb ho hrest
        clear hk hD
        go_simp
      · intro f w' hD hk
        obtain ⟨hb, ho, hrest⟩ := id hD
        obtain ⟨uq, uf⟩ := UpB.at_ hD (i := k * 5 + 4) (by omega)
        obtain ⟨uv, uq⟩ := uq
        clear hb ho hrest
        exact hD.store1 (by decide)
      simp only [Act.put, List.setIfInBounds_toArray, List.set_cons_zero, List.set_cons_succ]
      refine Fx.nil_ ?_
      intro f w6 hall hD
      obtain ⟨hb, ho, hblk⟩ := UpB.end_ hD (hall 14 (by simp)) (hall 17 (by simp))
      clear hall hD
      clear qa qr t1 t2 f0 f1
      have hb5s := HB5.out.size
      have HBW : Hid (Below w2.heap.size w2 w6) := HBR.out.trans ((HB5.out.mono (by omega)).trans (hb.mono (by omega)))
      have h6s : w4.heap.size ≤ w6.heap.size := by have := hb.size; omega
      have HO6 : Hid (∀ b, b ≠ g → b < w4.heap.size → w6.heap[b]? = w4.heap[b]?) := fun b h1 h2 => ((ho b h1).trans (HB5.out.block b (by omega))).trans (HOT.out b h1 h2)
      have hk6 : Blk w6 g 90 (rkCells (armsTo l (sidesOf l ps xs) (k + 1)) ++ ext).toArray := by
        rw [← HSUCC.out, ← rk_store HGET.out, HCS.out]; exact hblk
      have hg6 := hk6.lt
      have hget6 : (armsTo l (sidesOf l ps xs) (k + 1))[k]? = some { r with al := al, ar := ar } := by
        rw [← HSUCC.out, List.getElem?_set_self (List.getElem?_eq_some_iff.1 HGET.out).1]
      have hlen6 := armsTo_len (l := l) (S := sidesOf l ps xs) (by rw [HSL.out, HLN.out]) (k + 1)
      obtain ⟨zb, zo, r', e6, -, hr6, -, -, -, f3, f4⟩ := (Blk.reads_pre (n := n) (size := 5) hk6 (by rw [rkCells_five, hlen6, HLN.out])).rk hlt
      obtain ⟨rfl, rfl⟩ : g = zb ∧ 0 = zo := by simpa using e6
      rw [hget6] at hr6
      obtain rfl := Option.some.inj hr6
      simp only [Nat.zero_add] at f3 f4
      have HK6 := Lib.hid hk6
      clear hb ho hblk hk6 hget6 hlen6 e6 hr6
      obtain ⟨bq, hbq⟩ : ∃ b, decide (10000 < if al < ar then ar else al) = b := ⟨_, rfl⟩
      have HBQ : Hid (bigA (p1, p2) = bq) := by
        show _ = _
        rw [HBA.out, ← hbq]
        by_cases h1 : al < ar
        · rw [if_pos h1]
          by_cases h2 : 10000 < ar
          · simp [h2]
          · have : ¬ 10000 < al := by omega
            simp [h2, this]
        · rw [if_neg h1]
          by_cases h2 : 10000 < al
          · simp [h2]
          · have : ¬ 10000 < ar := by omega
            simp [h2, this]
      clear HBA
      go_wp2
      refine Fx.regionW (fun W f w' => Below W.heap.size W w') (by kernel_rfl) (by kernel_rfl) ?_ ?_
      · intro f hf0
        exact below_drewN (Below.refl _ _) 1
      repeat (first
        | (refine Fx.skip_ (by rfl) (fun f w h => h) ?_; simp only [Act.put, List.setIfInBounds_toArray, List.set_cons_zero, List.set_cons_succ])
        | (refine Fx.val_ ?_ (by rfl) ?_ (fun f w h => h) ?_
           rotate_left
           · intro f w' hD hk
             have hb := hD
             have x3 := (hb.cell (p := ⟨g, k * 5 + 3, none⟩) hg6).trans f3
             have x4 := (hb.cell (p := ⟨g, k * 5 + 4, none⟩) hg6).trans f4
             clear hk hD hb
             go_simp
             try rfl
           simp only [Act.put, List.setIfInBounds_toArray, List.set_cons_zero, List.set_cons_succ]))
      refine Fx.nil_ ?_
      intro f w7 hall hb7
      clear hall f3 f4
      have hb7s := hb7.size
      have HBW7 : Hid (Below w2.heap.size w2 w7) := HBW.out.trans (hb7.mono (by have := HBW.out.size; omega))
      have HO7 : Hid (∀ b, b ≠ g → b < w4.heap.size → w7.heap[b]? = w4.heap[b]?) := fun b h1 h2 => (hb7.block b (by omega)).trans (HO6.out b h1 h2)
      have HK7 := Lib.hid (HK6.out.below hb7 hg6)
      clear hb7 HK6 HO6 HBW
      cases bq
      · go_wp2
        go_roundw
        case rel => exact ⟨k + 1, by omega, by go_num, HBW7.out, by omega, HO7.out, HK7.out, by rw [HTK.out, List.any_append, HBG.out]; simp [HBQ.out]⟩
        case measure => simp [intOf]; omega
      · have HBAD : Hid ((sidesOf l ps xs).any bigA = true) := by
          show _ = _
          rw [← List.take_append_drop (k + 1) (sidesOf l ps xs), List.any_append, HTK.out, List.any_append]
          simp [HBQ.out]
        go_wp2
        all_goals
          go_ret2
          exact ⟨HB2.out.trans (HBW7.out.mono hb2s), .inl ⟨HBAD.out, rfl⟩⟩
    · have hkn : k = n := by omega
      rw [hkn] at HBK HBG
      clear hkn
      have hlen := armsTo_len (l := l) (S := sidesOf l ps xs) (by rw [HSL.out, HLN.out]) n
      have hr := Blk.reads_pre (n := n) (size := 5) HBK.out (by rw [rkCells_five, hlen, HLN.out])
      rw [← HLN.out, armsTo_all (by rw [HSL.out, HLN.out]), HLN.out] at hr
      have HRR := Lib.hid hr
      have HNO : Hid ((sidesOf l ps xs).any bigA = false) := by
        show _ = _
        have := HBG.out
        rwa [List.take_of_length_le (by rw [HSL.out]; omega)] at this
      clear hr hlen
      go_wp2
      go_ret2
      exact ⟨HB2.out.trans (HBR.out.mono hb2s), .inr ⟨HNO.out, _, _, rfl, HRR.out⟩⟩

end Go.Proofs.Ytoiconebcmneiab

end
