import Derived.Test.YtgamepmipoociaaQ24
import Derived.Test.YtgamepmipoociaaQ25
import Derived.Test.YtgamepmipoociaaQ29
import Derived.Test.YtgamepmipoociaaQ30

section
/- The walk of the statement on stars that a model predicts exactly. -/
namespace Go.Proofs.Ytgamepmipoociaa
open Go Go.RowKit

set_option maxRecDepth 100000 in
set_option maxHeartbeats 4000000 in
theorem lawPX_no (A : Option Addr) (n c : Nat) (l : List Star) (B : Option Addr) (m d : Nat) (ts : List Int) (w : World) (hnc : n ≤ c ∧ c ≤ 9223372036854775807) (hx : StarsAt l A n w) (hmd : m ≤ d ∧ d ≤ 9223372036854775807) (hy : Reads w w.heap.size 1 B m (ts.map (.int .i64)))
    (h0 : fewStars l = false ∨ 8 < n ∨ 3 < m ∨ ∃ T E, starsF l = (T, E) ∧ (E ≠ 0 ∨ T ≠ (m : Int))) :
    Calls Try.prog 13 #[.slice A n c, .slice B m d] w fun e w' => e = .returned (.bool true) ∧ Below w.heap.size w w' := by
  obtain ⟨hnc, hcm⟩ := hnc
  obtain ⟨hmd, hdm⟩ := hmd
  cases hr : fewStars l
  · have HR := Lib.hid hr
    clear hr h0
    go_enter Try.func13, Try.ntmps13
    have R0_0 := Lib.hid hx
    clear hx
    go_wp2_with fail
    refine (awakept_any _).mono ?_
    rintro e w1 ⟨rfl, hb⟩
    have HB1 := Lib.hid (show Below w.heap.size w w1 from step_below hb (by repeat' (first | exact Below.refl _ _ | exact HB0.out | refine below_drewN ?_ _ | refine Below.drew ?_ | refine Below.alloc ?_ (by first | omega | (simp; done) | (simp; omega) | (simp [World.setCell]; omega)) _ | refine Below.setCell ?_ (by first | omega | (simp; done) | (simp; omega)) _ | assumption)))
    have hL1 := Lib.hid (show Below w.heap.size w _ from reads_mid hb (by repeat' (first | exact Below.refl _ _ | refine below_drewN ?_ _ | refine Below.drew ?_ | refine Below.alloc ?_ (by first | omega | (simp; done) | (simp; omega) | (simp [World.setCell]; omega)) _ | refine Below.setCell ?_ (by first | omega | (simp; done) | (simp; omega)) _)))
    have R0_1 := Lib.hid (stars_lay hb hL1.out R0_0.out)
    clear hL1 R0_0
    have hz1 := hb.size
    try simp only [World.size_alloc, World.drewN, World.drew] at hz1
    clear hb
    go_wp2_with fail
    refine (fewstars_is l A n c false HR.out _ R0_1.out (by omega)).mono ?_
    rintro e w' ⟨rfl, rfl⟩
    go_wp2
    go_ret
    exact ⟨rfl, by repeat' (first | exact Below.refl _ _ | exact HB1.out | refine below_drewN ?_ _ | refine Below.drew ?_ | refine Below.alloc ?_ (by first | omega | (simp; done) | (simp; omega) | (simp [World.setCell]; omega)) _ | refine Below.setCell ?_ (by first | omega | (simp; done) | (simp; omega)) _ | assumption)⟩
  have HR := Lib.hid hr
  by_cases h8 : 8 < n
  · have d8 : (8 : Int) < (n : Int) := by omega
    clear hr h0
    go_enter Try.func13, Try.ntmps13
    have R0_0 := Lib.hid hx
    clear hx
    go_wp2_with fail
    refine (awakept_any _).mono ?_
    rintro e w1 ⟨rfl, hb⟩
    have HB1 := Lib.hid (show Below w.heap.size w w1 from step_below hb (by repeat' (first | exact Below.refl _ _ | exact HB0.out | refine below_drewN ?_ _ | refine Below.drew ?_ | refine Below.alloc ?_ (by first | omega | (simp; done) | (simp; omega) | (simp [World.setCell]; omega)) _ | refine Below.setCell ?_ (by first | omega | (simp; done) | (simp; omega)) _ | assumption)))
    have hL1 := Lib.hid (show Below w.heap.size w _ from reads_mid hb (by repeat' (first | exact Below.refl _ _ | refine below_drewN ?_ _ | refine Below.drew ?_ | refine Below.alloc ?_ (by first | omega | (simp; done) | (simp; omega) | (simp [World.setCell]; omega)) _ | refine Below.setCell ?_ (by first | omega | (simp; done) | (simp; omega)) _)))
    have R0_1 := Lib.hid (stars_lay hb hL1.out R0_0.out)
    clear hL1 R0_0
    have hz1 := hb.size
    try simp only [World.size_alloc, World.drewN, World.drew] at hz1
    clear hb
    go_wp2_with fail
    refine (fewstars_is l A n c true HR.out _ R0_1.out (by omega)).mono ?_
    rintro e w' ⟨rfl, rfl⟩
    go_wp2
    go_ret
    exact ⟨rfl, by repeat' (first | exact Below.refl _ _ | exact HB1.out | refine below_drewN ?_ _ | refine Below.drew ?_ | refine Below.alloc ?_ (by first | omega | (simp; done) | (simp; omega) | (simp [World.setCell]; omega)) _ | refine Below.setCell ?_ (by first | omega | (simp; done) | (simp; omega)) _ | assumption)⟩
  have d8 : ¬ (8 : Int) < (n : Int) := by omega
  by_cases h3 : 3 < m
  · have d3 : (3 : Int) < (m : Int) := by omega
    clear hr h0
    go_enter Try.func13, Try.ntmps13
    have R0_0 := Lib.hid hx
    clear hx
    go_wp2_with fail
    refine (awakept_any _).mono ?_
    rintro e w1 ⟨rfl, hb⟩
    have HB1 := Lib.hid (show Below w.heap.size w w1 from step_below hb (by repeat' (first | exact Below.refl _ _ | exact HB0.out | refine below_drewN ?_ _ | refine Below.drew ?_ | refine Below.alloc ?_ (by first | omega | (simp; done) | (simp; omega) | (simp [World.setCell]; omega)) _ | refine Below.setCell ?_ (by first | omega | (simp; done) | (simp; omega)) _ | assumption)))
    have hL1 := Lib.hid (show Below w.heap.size w _ from reads_mid hb (by repeat' (first | exact Below.refl _ _ | refine below_drewN ?_ _ | refine Below.drew ?_ | refine Below.alloc ?_ (by first | omega | (simp; done) | (simp; omega) | (simp [World.setCell]; omega)) _ | refine Below.setCell ?_ (by first | omega | (simp; done) | (simp; omega)) _)))
    have R0_1 := Lib.hid (stars_lay hb hL1.out R0_0.out)
    clear hL1 R0_0
    have hz1 := hb.size
    try simp only [World.size_alloc, World.drewN, World.drew] at hz1
    clear hb
    go_wp2_with fail
    refine (fewstars_is l A n c true HR.out _ R0_1.out (by omega)).mono ?_
    rintro e w' ⟨rfl, rfl⟩
    go_wp2
    go_ret
    exact ⟨rfl, by repeat' (first | exact Below.refl _ _ | exact HB1.out | refine below_drewN ?_ _ | refine Below.drew ?_ | refine Below.alloc ?_ (by first | omega | (simp; done) | (simp; omega) | (simp [World.setCell]; omega)) _ | refine Below.setCell ?_ (by first | omega | (simp; done) | (simp; omega)) _ | assumption)⟩
  have d3 : ¬ (3 : Int) < (m : Int) := by omega
  obtain ⟨T, E, hE, hne⟩ : ∃ T E, starsF l = (T, E) ∧ (E ≠ 0 ∨ T ≠ (m : Int)) := by
    rcases h0 with h | h | h | h
    · rw [hr] at h; cases h
    · exact absurd h h8
    · exact absurd h h3
    · exact h
  have HF := Lib.hid (fewStars_right hr)
  have HE := Lib.hid hE
  clear hr h0 hE
  by_cases hz : E = 0
  rotate_left
  · have q1 : (E != 0) = true := by simpa using hz
    clear hne hz
    go_enter Try.func13, Try.ntmps13
    have R0_0 := Lib.hid hx
    clear hx
    go_wp2_with fail
    refine (awakept_any _).mono ?_
    rintro e w1 ⟨rfl, hb⟩
    have HB1 := Lib.hid (show Below w.heap.size w w1 from step_below hb (by repeat' (first | exact Below.refl _ _ | exact HB0.out | refine below_drewN ?_ _ | refine Below.drew ?_ | refine Below.alloc ?_ (by first | omega | (simp; done) | (simp; omega) | (simp [World.setCell]; omega)) _ | refine Below.setCell ?_ (by first | omega | (simp; done) | (simp; omega)) _ | assumption)))
    have hL1 := Lib.hid (show Below w.heap.size w _ from reads_mid hb (by repeat' (first | exact Below.refl _ _ | refine below_drewN ?_ _ | refine Below.drew ?_ | refine Below.alloc ?_ (by first | omega | (simp; done) | (simp; omega) | (simp [World.setCell]; omega)) _ | refine Below.setCell ?_ (by first | omega | (simp; done) | (simp; omega)) _)))
    have R0_1 := Lib.hid (stars_lay hb hL1.out R0_0.out)
    clear hL1 R0_0
    have hz1 := hb.size
    try simp only [World.size_alloc, World.drewN, World.drew] at hz1
    clear hb
    go_wp2_with fail
    refine (fewstars_is l A n c true HR.out _ R0_1.out (by omega)).mono ?_
    rintro e w' ⟨rfl, rfl⟩
    go_wp2_with fail
    refine (cstars_any l A n c _ R0_1.out (by omega) (fun s hs => Nat.le_trans (HF.out.1 s hs) (by decide))).mono ?_
    rintro e w2 ⟨A2, c2, S, rfl, hb, hS, hso⟩
    have HB2 := Lib.hid (show Below w.heap.size w w2 from step_below hb (by repeat' (first | exact Below.refl _ _ | exact HB1.out | refine below_drewN ?_ _ | refine Below.drew ?_ | refine Below.alloc ?_ (by first | omega | (simp; done) | (simp; omega) | (simp [World.setCell]; omega)) _ | refine Below.setCell ?_ (by first | omega | (simp; done) | (simp; omega)) _ | assumption)))
    have hL2 := Lib.hid (show Below w1.heap.size w1 _ from reads_mid hb (by repeat' (first | exact Below.refl _ _ | refine below_drewN ?_ _ | refine Below.drew ?_ | refine Below.alloc ?_ (by first | omega | (simp; done) | (simp; omega) | (simp [World.setCell]; omega)) _ | refine Below.setCell ?_ (by first | omega | (simp; done) | (simp; omega)) _)))
    have R0_2 := Lib.hid (stars_lay hb hL2.out R0_1.out)
    clear hL2 R0_1
    have hz2 := hb.size
    try simp only [World.size_alloc, World.drewN, World.drew] at hz2
    clear hb
    have hsa := hso.at_
    have R1_2 := Lib.hid hsa
    clear hsa
    have HSE := Lib.hid (stars_alike hS HE.out)
    clear hS hso
    go_wp2_with fail
    refine (pstars_is S A2 n c2 T E HSE.out _ R1_2.out (by omega)).mono ?_
    rintro e w3 ⟨rfl, hb⟩
    have HB3 := Lib.hid (show Below w.heap.size w w3 from step_below hb (by repeat' (first | exact Below.refl _ _ | exact HB2.out | refine below_drewN ?_ _ | refine Below.drew ?_ | refine Below.alloc ?_ (by first | omega | (simp; done) | (simp; omega) | (simp [World.setCell]; omega)) _ | refine Below.setCell ?_ (by first | omega | (simp; done) | (simp; omega)) _ | assumption)))
    have hL3 := Lib.hid (show Below w2.heap.size w2 _ from reads_mid hb (by repeat' (first | exact Below.refl _ _ | refine below_drewN ?_ _ | refine Below.drew ?_ | refine Below.alloc ?_ (by first | omega | (simp; done) | (simp; omega) | (simp [World.setCell]; omega)) _ | refine Below.setCell ?_ (by first | omega | (simp; done) | (simp; omega)) _)))
    have R0_3 := Lib.hid (stars_lay hb hL3.out R0_2.out)
    have R1_3 := Lib.hid (stars_lay hb hL3.out R1_2.out)
    clear hL3 R0_2 R1_2
    have hz3 := hb.size
    try simp only [World.size_alloc, World.drewN, World.drew] at hz3
    clear hb
    go_wp2
    go_ret
    exact ⟨rfl, by repeat' (first | exact Below.refl _ _ | exact HB3.out | refine below_drewN ?_ _ | refine Below.drew ?_ | refine Below.alloc ?_ (by first | omega | (simp; done) | (simp; omega) | (simp [World.setCell]; omega)) _ | refine Below.setCell ?_ (by first | omega | (simp; done) | (simp; omega)) _ | assumption)⟩
  subst hz
  have hne : T ≠ (m : Int) := by exact hne.resolve_left (fun h => h rfl)
  have q1 : ((0 : Int) != 0) = false := by decide
  have q2 : (T != (m : Int)) = true := by simpa using hne
  clear hne
  go_enter Try.func13, Try.ntmps13
  have R0_0 := Lib.hid hx
  clear hx
  go_wp2_with fail
  refine (awakept_any _).mono ?_
  rintro e w1 ⟨rfl, hb⟩
  have HB1 := Lib.hid (show Below w.heap.size w w1 from step_below hb (by repeat' (first | exact Below.refl _ _ | exact HB0.out | refine below_drewN ?_ _ | refine Below.drew ?_ | refine Below.alloc ?_ (by first | omega | (simp; done) | (simp; omega) | (simp [World.setCell]; omega)) _ | refine Below.setCell ?_ (by first | omega | (simp; done) | (simp; omega)) _ | assumption)))
  have hL1 := Lib.hid (show Below w.heap.size w _ from reads_mid hb (by repeat' (first | exact Below.refl _ _ | refine below_drewN ?_ _ | refine Below.drew ?_ | refine Below.alloc ?_ (by first | omega | (simp; done) | (simp; omega) | (simp [World.setCell]; omega)) _ | refine Below.setCell ?_ (by first | omega | (simp; done) | (simp; omega)) _)))
  have R0_1 := Lib.hid (stars_lay hb hL1.out R0_0.out)
  clear hL1 R0_0
  have hz1 := hb.size
  try simp only [World.size_alloc, World.drewN, World.drew] at hz1
  clear hb
  go_wp2_with fail
  refine (fewstars_is l A n c true HR.out _ R0_1.out (by omega)).mono ?_
  rintro e w' ⟨rfl, rfl⟩
  go_wp2_with fail
  refine (cstars_any l A n c _ R0_1.out (by omega) (fun s hs => Nat.le_trans (HF.out.1 s hs) (by decide))).mono ?_
  rintro e w2 ⟨A2, c2, S, rfl, hb, hS, hso⟩
  have HB2 := Lib.hid (show Below w.heap.size w w2 from step_below hb (by repeat' (first | exact Below.refl _ _ | exact HB1.out | refine below_drewN ?_ _ | refine Below.drew ?_ | refine Below.alloc ?_ (by first | omega | (simp; done) | (simp; omega) | (simp [World.setCell]; omega)) _ | refine Below.setCell ?_ (by first | omega | (simp; done) | (simp; omega)) _ | assumption)))
  have hL2 := Lib.hid (show Below w1.heap.size w1 _ from reads_mid hb (by repeat' (first | exact Below.refl _ _ | refine below_drewN ?_ _ | refine Below.drew ?_ | refine Below.alloc ?_ (by first | omega | (simp; done) | (simp; omega) | (simp [World.setCell]; omega)) _ | refine Below.setCell ?_ (by first | omega | (simp; done) | (simp; omega)) _)))
  have R0_2 := Lib.hid (stars_lay hb hL2.out R0_1.out)
  clear hL2 R0_1
  have hz2 := hb.size
  try simp only [World.size_alloc, World.drewN, World.drew] at hz2
  clear hb
  have hsa := hso.at_
  have R1_2 := Lib.hid hsa
  clear hsa
  have HSE := Lib.hid (stars_alike hS HE.out)
  clear hS hso
  go_wp2_with fail
  refine (pstars_is S A2 n c2 T 0 HSE.out _ R1_2.out (by omega)).mono ?_
  rintro e w3 ⟨rfl, hb⟩
  have HB3 := Lib.hid (show Below w.heap.size w w3 from step_below hb (by repeat' (first | exact Below.refl _ _ | exact HB2.out | refine below_drewN ?_ _ | refine Below.drew ?_ | refine Below.alloc ?_ (by first | omega | (simp; done) | (simp; omega) | (simp [World.setCell]; omega)) _ | refine Below.setCell ?_ (by first | omega | (simp; done) | (simp; omega)) _ | assumption)))
  have hL3 := Lib.hid (show Below w2.heap.size w2 _ from reads_mid hb (by repeat' (first | exact Below.refl _ _ | refine below_drewN ?_ _ | refine Below.drew ?_ | refine Below.alloc ?_ (by first | omega | (simp; done) | (simp; omega) | (simp [World.setCell]; omega)) _ | refine Below.setCell ?_ (by first | omega | (simp; done) | (simp; omega)) _)))
  have R0_3 := Lib.hid (stars_lay hb hL3.out R0_2.out)
  have R1_3 := Lib.hid (stars_lay hb hL3.out R1_2.out)
  clear hL3 R0_2 R1_2
  have hz3 := hb.size
  try simp only [World.size_alloc, World.drewN, World.drew] at hz3
  clear hb
  go_wp2
  go_ret
  exact ⟨rfl, by repeat' (first | exact Below.refl _ _ | exact HB3.out | refine below_drewN ?_ _ | refine Below.drew ?_ | refine Below.alloc ?_ (by first | omega | (simp; done) | (simp; omega) | (simp [World.setCell]; omega)) _ | refine Below.setCell ?_ (by first | omega | (simp; done) | (simp; omega)) _ | assumption)⟩

/-- What is known in round k of the first loop: the errors of x are what the model predicts, those of y are those of l modulo 500. -/
structure PxI (l : List Star) (ts : List Int) (n gx cx gy cy B1 B2 k : Nat) (X Y : List Star) (w0 w : World) : Prop where
  bel : Below w0.heap.size w0 w
  xo : StarsOwn B1 X (.slice (some ⟨gx, 0, none⟩) n cx) n w
  yo : StarsOwn B2 Y (.slice (some ⟨gy, 0, none⟩) n cy) n w
  xs : X.map Star.xs = l.map Star.xs
  ys : Y.map Star.xs = l.map Star.xs
  xe : ∀ j s, j < k → X[j]? = some s → s.er = dotS ts s
  ye : ∀ j s t, j < k → Y[j]? = some s → l[j]? = some t → s.er = t.er % 500
  tin : 0 < k → ∀ z ∈ ts, -3 ≤ z ∧ z ≤ 3
theorem xs_of {X l : List Star} (h : X.map (fun s => (s.xs, s.er)) = l.map (fun s => (s.xs, s.er))) : X.map Star.xs = l.map Star.xs := by
  have := congrArg (List.map Prod.fst) h
  rw [List.map_map, List.map_map] at this
  exact this

theorem StarsOwn.far2 {B B' n g g' c c' q : Nat} {S T : List Star} {w : World} (h : StarsOwn B S (.slice (some ⟨g, 0, none⟩) n c) n w) (h' : StarsOwn B' T (.slice (some ⟨g', 0, none⟩) n c') n w) (hne : g ≠ g') (u : Value) :
    StarsOwn B S (.slice (some ⟨g, 0, none⟩) n c) n (w.setCell ⟨g', q, none⟩ u) :=
  h.far (fun b o e => by cases e; exact hne) (fun t ht => own_other (h.each t ht) h'.row (by decide)) u
theorem withinB_in {z a b : Int} (h : withinB z a b = true) : a ≤ z ∧ z ≤ b := by
  unfold withinB at h
  simpa using h
theorem dotP_in2 {ts xs : List Int} {k : Nat} (ht : ∀ q z, q < k → ts[q]? = some z → -3 ≤ z ∧ z ≤ 3) (hx : ∀ z ∈ xs, -100 ≤ z ∧ z ≤ 100) : -(300 * (k : Int)) ≤ dotP ts xs k ∧ dotP ts xs k ≤ 300 * (k : Int) := by
  have e : dotP ts xs k = dotP (ts.take k) xs k := by
    unfold dotP
    rw [show (ts.zip xs).take k = ((ts.take k).zip xs).take k by show (List.zipWith Prod.mk ts xs).take k = (List.zipWith Prod.mk (ts.take k) xs).take k; rw [List.take_zipWith, List.take_zipWith, List.take_take, Nat.min_self]]
  rw [e]
  refine dotP_in (fun z hz => ?_) hx k
  obtain ⟨q, hq⟩ := List.mem_iff_getElem?.1 hz
  rw [List.getElem?_take] at hq
  split at hq
  · exact ht q z ‹_› hq
  · cases hq
theorem xs_set {X : List Star} {k : Nat} {s : Star} (h : X[k]? = some s) (z : Int) : (X.set k { s with er := z }).map Star.xs = X.map Star.xs := by
  rw [List.map_set]
  apply List.ext_getElem?
  intro i
  by_cases hik : k = i
  · subst hik
    rw [List.getElem?_set_self (by rw [List.length_map]; exact (List.getElem?_eq_some_iff.1 h).1), List.getElem?_map, h]
    rfl
  · rw [List.getElem?_set_ne hik]

theorem cstars2_any (l : List Star) (A : Option Addr) (n c : Nat) (w : World) (hx : StarsAt l A n w) (hn : n ≤ 1000) (h6 : ∀ s ∈ l, s.n ≤ 1000) :
    Calls Try.prog 60 #[.slice A n c] w fun e w' => ∃ A c S, e = .returned (.slice A n c) ∧ Below w.heap.size w w' ∧ Below w.heap.size w w' ∧ S.map (fun s => (s.xs, s.er)) = l.map (fun s => (s.xs, s.er)) ∧ StarsOwn w.heap.size S (.slice A n c) n w' :=
  (cstars_any l A n c w hx hn h6).mono fun _ _ ⟨A', c', S, h1, h2, h3, h4⟩ => ⟨A', c', S, h1, h2, h2, h3, h4⟩

theorem starErr_er {n : Nat} {s t : Star} (h : starErr n t = 0) (hx : s.xs = t.xs) (he : -1000 ≤ s.er ∧ s.er ≤ 1000) : starErr n s = 0 := by
  obtain ⟨h1, h2, h3, h4, -⟩ := star_right h
  have a1 : withinB (n : Int) 1 3 = true := (withinB_iff _ _ _).2 ⟨by omega, by omega⟩
  have a2 : smallL 100 t.xs = true := by unfold smallL; rw [List.all_eq_true]; exact fun z hz => (withinB_iff _ _ _).2 (h4 z hz)
  have a3 : smallL 1000 [s.er] = true := by rw [small_one]; exact (withinB_iff _ _ _).2 he
  unfold starErr
  rw [hx]
  simp [h1, a1, a2, a3]
theorem xs_mem {X l : List Star} (h : X.map Star.xs = l.map Star.xs) {s : Star} (hs : s ∈ X) : ∃ t ∈ l, s.xs = t.xs := by
  have h1 : s.xs ∈ X.map Star.xs := List.mem_map.2 ⟨s, hs, rfl⟩
  rw [h] at h1
  obtain ⟨t, ht, e⟩ := List.mem_map.1 h1
  exact ⟨t, ht, e.symm⟩
theorem stars_er {X l : List Star} {N : Int} (hx : X.map Star.xs = l.map Star.xs) (hE : starsF l = (N, 0)) (he : ∀ s ∈ X, -1000 ≤ s.er ∧ s.er ≤ 1000) : starsF X = (N, 0) := by
  obtain ⟨h1, h2, h3, h4⟩ := stars_right hE rfl
  have hl : X.length = l.length := by simpa using congrArg List.length hx
  have hT := termsN_congr hx
  rw [h3, ← hT]
  refine stars_all (by omega) (by omega) fun j s _ hs => ?_
  obtain ⟨t, ht, e⟩ := xs_mem hx (List.mem_of_getElem? hs)
  rw [hT]
  exact starErr_er (h4 t ht) e (he s (List.mem_of_getElem? hs))
theorem exact_stars {X l : List Star} {ts : List Int} {m : Nat} (hE : starsF l = ((m : Int), 0)) (hx : X.map Star.xs = l.map Star.xs) (hm : ts.length = m) (ht : ∀ z ∈ ts, -3 ≤ z ∧ z ≤ 3) (he : ∀ s ∈ X, s.er = dotS ts s) : starsF X = ((m : Int), 0) := by
  refine stars_er hx hE fun s hs => ?_
  obtain ⟨h1, h2, h3, h4⟩ := stars_right hE rfl
  obtain ⟨t, htl, e⟩ := xs_mem hx hs
  obtain ⟨a1, a2, a3, a4, -⟩ := star_right (h4 t htl)
  have hmT : termsN l = m := by omega
  rw [hmT] at a1 a2 a3
  rw [he s hs, ← dotP_all (by rw [e, a1, hm]) (by omega)]
  have := dotP_in ht (xs := s.xs) (by rw [e]; exact a4) ts.length
  omega
theorem dbl_map {Y Y3 S : List Star} {n : Nat} (hS : S.map (fun s => (s.xs, s.er)) = Y.map (fun s => (s.xs, s.er))) (hx : Y3.map Star.xs = Y.map Star.xs) (he : ∀ j s t, Y3[j]? = some s → Y[j]? = some t → s.er = if j < n then 2 * t.er else t.er) (hn : Y.length = n) :
    Y3.map (fun s => (s.xs, s.er)) = S.map (fun s => (s.xs, 2 * s.er)) := by
  apply List.ext_getElem?
  intro i
  have h1 := congrArg (fun z => z[i]?) hx
  have h2 := congrArg (fun z => z[i]?) hS
  simp only [List.getElem?_map] at h1 h2 ⊢
  cases hY : Y[i]? with
  | none =>
    rw [hY] at h1 h2
    have a : Y3[i]? = none := by simpa using h1
    have b : S[i]? = none := by simpa using h2
    rw [a, b]; rfl
  | some t =>
    rw [hY] at h1 h2
    simp only [Option.map_some] at h1 h2
    obtain ⟨s, hs, e1⟩ := Option.map_eq_some_iff.1 h1
    obtain ⟨r, hr, e2⟩ := Option.map_eq_some_iff.1 h2
    have hi : i < n := by rw [← hn]; exact (List.getElem?_eq_some_iff.1 hY).1
    have h5 := he i s t hs hY
    rw [if_pos hi] at h5
    have e3 : r.xs = t.xs := congrArg Prod.fst e2
    have e4 : r.er = t.er := congrArg Prod.snd e2
    rw [hs, hr]
    simp only [Option.map_some]
    rw [e1, h5, e3, e4]
theorem Tch.reads {P : Nat → Prop} {w w' : World} {sz n : Nat} {A : Option Addr} {xs : List Value} (h : Tch P w w') (hr : Reads w w.heap.size sz A n xs) (hA : ∀ b o, A = some ⟨b, o, none⟩ → ¬ P b) : Reads w' w'.heap.size sz A n xs := by
  refine ⟨hr.1, fun hn => ?_⟩
  obtain ⟨b, o, e, hb, hc⟩ := hr.2 hn
  have := h.size
  exact ⟨b, o, e, by omega, fun j u hu => (h.cell (p := ⟨b, o + j, none⟩) hb (hA b o e)).trans (hc j u hu)⟩
theorem pfit_is {l : List Star} {T : List Int} {D E : Int} {N : Nat} (hf : fitF l = ((T, D), E)) (hN : T.length = N) (A : Option Addr) (n c : Nat) (hE : (starsF l).2 = 0) (w : World) (hx : StarsAt l A n w) :
    Calls Try.prog 61 #[.slice A n c] w fun e w' => ∃ A c, e = .returned (.tuple #[.agg #[.slice A N c, .int .i64 D], .int .i64 E]) ∧ Below w.heap.size w w' ∧ Reads w' w'.heap.size 1 A N (T.map (.int .i64)) ∧ ∀ b o, A = some ⟨b, o, none⟩ → w.heap.size ≤ b := by
  have h := pfit_any l A n c hE w hx
  refine h.mono fun e w' hp => ?_
  unfold FitPost at hp
  rw [hf] at hp
  subst hN
  exact hp

end Go.Proofs.Ytgamepmipoociaa

end
