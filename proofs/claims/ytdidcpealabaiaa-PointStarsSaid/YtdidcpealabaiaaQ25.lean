import Derived.Test.YtdidcpealabaiaaQ23
import Derived.Test.YtdidcpealabaiaaQ24
import Derived.Test.YtdidcpealabaiaaQ21

section
/- Contract of the reference's best model. -/
namespace Go.Proofs.Ytdidcpealabaiaa
open Go Go.RowKit

def RFitPost (l : List Star) (w : World) (e : Ending) (w' : World) : Prop :=
  ∃ A c, e = .returned (.tuple #[.agg #[.slice A (fitF l).1.1.length c, .int .i64 (fitF l).1.2], .int .i64 (fitF l).2]) ∧ Below w.heap.size w w' ∧ Reads w' w'.heap.size 1 A (fitF l).1.1.length ((fitF l).1.1.map (.int .i64)) ∧ ∀ b o, A = some ⟨b, o, none⟩ → w.heap.size ≤ b
theorem RFitPost.mk' {l : List Star} {w w' : World} {e : Ending} {T : List Int} {D E : Int} {A : Option Addr} {c : Nat} (h : fitF l = ((T, D), E)) (he : e = .returned (.tuple #[.agg #[.slice A T.length c, .int .i64 D], .int .i64 E])) (hb : Below w.heap.size w w') (hr : Reads w' w'.heap.size 1 A T.length (T.map (.int .i64))) (hA : ∀ b o, A = some ⟨b, o, none⟩ → w.heap.size ≤ b) : RFitPost l w e w' := by
  unfold RFitPost
  rw [h]
  exact ⟨A, c, he, hb, hr, hA⟩
/-- The rows of a copy, with column k replaced in the first i of them. -/
def colTo (k i : Nat) (M : List (List Int)) (R : List Int) : List (List Int) := M.mapIdx fun j r => if j < i then r.set k (R.getD j 0) else r
theorem colTo_zero (k : Nat) (M : List (List Int)) (R : List Int) : colTo k 0 M R = M := by
  unfold colTo
  apply List.ext_getElem?
  intro j
  rw [List.getElem?_mapIdx]
  cases M[j]? <;> simp
theorem colTo_all {k n : Nat} {M : List (List Int)} {R : List Int} (h : M.length = n) : colTo k n M R = colSet k M R := by
  unfold colTo colSet
  apply List.ext_getElem?
  intro j
  rw [List.getElem?_mapIdx, List.getElem?_mapIdx]
  cases hj : M[j]? with
  | none => rfl
  | some r => simp only [Option.map_some]; rw [if_pos (by have := (List.getElem?_eq_some_iff.1 hj).1; omega)]
theorem colTo_set {k i : Nat} {M : List (List Int)} {R r : List Int} {z : Int} (h : M[i]? = some r) (hz : R[i]? = some z) : (colTo k i M R).set i (r.set k z) = colTo k (i + 1) M R := by
  have hi := (List.getElem?_eq_some_iff.1 h).1
  unfold colTo
  apply List.ext_getElem?
  intro j
  by_cases hj : i = j
  · subst hj
    rw [List.getElem?_set_self (by simpa using hi), List.getElem?_mapIdx, h]
    simp only [Option.map_some]
    rw [if_pos (by omega), List.getD_eq_getElem?_getD, hz]
    rfl
  · rw [List.getElem?_set_ne hj, List.getElem?_mapIdx, List.getElem?_mapIdx]
    cases M[j]? with
    | none => rfl
    | some x =>
      simp only [Option.map_some]
      by_cases h1 : j < i
      · rw [if_pos h1, if_pos (by omega)]
      · rw [if_neg h1, if_neg (by omega)]
theorem colTo_get {k i : Nat} {M : List (List Int)} {R r : List Int} (h : M[i]? = some r) : (colTo k i M R)[i]? = some r := by
  unfold colTo
  rw [List.getElem?_mapIdx, h]
  simp

theorem sep_at {ts : List TRow} (h : RowsSep ts) {i j : Nat} {r s : TRow} (hr : ts[i]? = some r) (hs : ts[j]? = some s) (hne : i ≠ j) : ∀ q, r.val.ownBlock = some q → s.val.ownBlock ≠ some q := by
  obtain ⟨hi, rfl⟩ := List.getElem?_eq_some_iff.1 hr
  obtain ⟨hj, rfl⟩ := List.getElem?_eq_some_iff.1 hs
  have hp := List.pairwise_iff_getElem.1 h
  intro q h1 h2
  rcases Nat.lt_or_ge i j with hlt | hge
  · exact hp i j hi hj hlt q h1 h2
  · exact hp j i hj hi (by omega) q h2 h1
theorem vals_set {ts : List TRow} {i : Nat} {r : TRow} (hr : ts[i]? = some r) (xs : List Int) : (ts.set i { r with xs := xs }).map TRow.val = ts.map TRow.val := by
  apply List.ext_getElem?
  intro j
  rw [List.getElem?_map, List.getElem?_map]
  by_cases hj : i = j
  · subst hj
    rw [List.getElem?_set_self (List.getElem?_eq_some_iff.1 hr).1, hr]
    rfl
  · rw [List.getElem?_set_ne hj]
theorem sep_vals {ts us : List TRow} (h : us.map TRow.val = ts.map TRow.val) (hs : RowsSep ts) : RowsSep us := by
  have h1 : (ts.map TRow.val).Pairwise fun a b => ∀ q, a.ownBlock = some q → b.ownBlock ≠ some q := List.pairwise_map.2 hs
  rw [← h] at h1
  exact List.pairwise_map.1 h1
theorem RowsOwn.store {B n i k : Nat} {ts : List TRow} {u : Value} {w : World} (h : RowsOwn B ts u n w) (hs : RowsSep ts) {r : TRow} (hr : ts[i]? = some r) (hN : 0 < r.n) (z : Int) :
    ∃ g cap, r.val = .slice (some ⟨g, 0, none⟩) r.n cap ∧ B ≤ g ∧ g < w.heap.size ∧ w.frozen? ⟨g, k, none⟩ = false ∧ RowsOwn B (ts.set i { r with xs := r.xs.set k z }) u n (w.setCell ⟨g, k, none⟩ (.int .i64 z)) := by
  have hm := h.each r (List.mem_of_getElem? hr)
  obtain ⟨g, cap, hv, h1, h2, h3, h4⟩ := own_store hm hN k (.int .i64 z)
  have hg : r.val.ownBlock = some g := by rw [hv]; rfl
  refine ⟨g, cap, hv, h1, h2, h3, ⟨by rw [vals_set hr]; exact own_set h.row (fun e => own_ne hm h.row (by decide) g hg e) _, fun r' hr' => ?_⟩⟩
  obtain ⟨j, hj⟩ := List.getElem?_of_mem hr'
  by_cases e : i = j
  · subst e
    rw [List.getElem?_set_self (List.getElem?_eq_some_iff.1 hr).1] at hj
    cases hj
    rw [List.map_set]
    exact h4
  · rw [List.getElem?_set_ne e] at hj
    exact own_set (h.each r' (List.mem_of_getElem? hj)) (sep_at hs hr hj e g hg) _

theorem RowsOwn.keep {B n : Nat} {ts : List TRow} {u : Value} {w w' : World} (h : RowsOwn B ts u n w) (hk : ∀ q, B ≤ q → q < w.heap.size → w'.heap[q]? = w.heap[q]?) : RowsOwn B ts u n w' :=
  ⟨own_same h.row fun q hq => hk q (own_lt h.row hq).1 (own_lt h.row hq).2, fun r hr => own_same (h.each r hr) fun q hq => hk q (own_lt (h.each r hr) hq).1 (own_lt (h.each r hr) hq).2⟩

theorem mdl_small {F : List Int} {D G : Int} {N : Nat} (hF : F.length = N) (n1 : 1 ≤ N) (n3 : N ≤ 3) (hD : 0 < D) (hG : gcdF D F = G) : mdlErr (F.map (· / G)) (D / G) = if smallL 1000000000000 (D / G :: F.map (· / G)) = false then 2 else 0 := by
  have hgi := gcdF_in F D (by omega)
  have hgv := gcdF_dvd F D
  rw [hG] at hgi hgv
  have hg0 : 0 < G := by omega
  have hD1 : 1 ≤ D / G := Int.ediv_pos_of_pos_of_dvd hD (by omega) hgv.1
  have hgc : gcdF (D / G) (F.map (· / G)) = 1 := by
    have h := gcdF_div hg0 F D hgv.1 hgv.2
    rw [hG] at h
    have h2 : (gcdF (D / G) (F.map (· / G)) - 1) * G = 0 := by rw [Int.sub_mul, h]; omega
    rcases Int.mul_eq_zero.1 h2 with h3 | h3
    · omega
    · omega
  have hl : withinB ((F.map (· / G)).length : Int) 1 3 = true := (withinB_iff _ _ _).2 (by rw [List.length_map]; omega)
  have hc : smallL 1000000000000 (D / G :: F.map (· / G)) = (withinB (D / G) (-1000000000000) 1000000000000 && smallL 1000000000000 (F.map (· / G))) := rfl
  have hw : withinB (D / G) (-1000000000000) 1000000000000 = withinB (D / G) 1 1000000000000 := by
    cases h1 : withinB (D / G) 1 1000000000000
    · cases h2 : withinB (D / G) (-1000000000000) 1000000000000
      · rfl
      · have := (withinB_iff _ _ _).1 h2
        rw [(withinB_iff _ _ _).2 ⟨hD1, this.2⟩] at h1
        cases h1
    · have := (withinB_iff _ _ _).1 h1
      exact (withinB_iff _ _ _).2 ⟨by omega, this.2⟩
  unfold mdlErr
  rw [if_neg (by rw [hl]; simp), hgc, hc, hw]
  cases withinB (D / G) 1 1000000000000 <;> cases smallL 1000000000000 (F.map (· / G)) <;> simp

set_option maxRecDepth 100000 in
set_option maxHeartbeats 16000000 in
theorem rfit_any (l : List Star) (A : Option Addr) (n c : Nat) (hE : (starsF l).2 = 0) (w : World) (hx : StarsAt l A n w) :
    Calls Try.prog 24 #[.slice A n c] w (RFitPost l w) := by
  have hl := hx.len
  obtain ⟨⟨T0, E0⟩, hS⟩ : ∃ z, starsF l = z := ⟨_, rfl⟩
  rw [hS] at hE
  simp only at hE
  subst hE
  obtain ⟨s1, s2, s3, s4⟩ := stars_right hS rfl
  subst s3
  obtain ⟨N, hN⟩ : ∃ N, termsN l = N := ⟨_, rfl⟩
  rw [hN] at hS s4
  have hNr : 1 ≤ N ∧ N ≤ 3 := by
    obtain ⟨s, hs⟩ := List.exists_mem_of_length_pos (show 0 < l.length by omega)
    obtain ⟨-, h1, h2, -⟩ := star_right (s4 s hs)
    exact ⟨h1, h2⟩
  obtain ⟨n1, n3⟩ := hNr
  obtain ⟨zb, zo, s0, rfl, hzb, hs0, c0, -, -, hs0l, -⟩ := hx.at_ (i := 0) (by omega)
  simp only [Nat.zero_mul, Nat.add_zero] at c0
  have hNs : s0.n = N := by rw [← hs0l]; exact (star_right (s4 s0 (List.mem_of_getElem? hs0))).1
  rw [hNs] at c0
  have ca : (w.alloc (.cells #[.slice none 0 0, .int .i64 0] 45)).cell? ⟨zb, zo, none⟩ = some (.slice s0.A N s0.c) := (((Below.refl w.heap.size w).alloc (Nat.le_refl _) _).cell (p := ⟨zb, zo, none⟩) hzb).trans c0
  rw [hl] at s1 s2
  obtain ⟨D, hD⟩ : ∃ D, detM (fitM l N) = D := ⟨_, rfl⟩
  obtain ⟨e1, e2⟩ := star_det n1 n3 s4 (by omega)
  rw [hD] at e1
  have hn0 : 0 < n := by omega
  have HX := Lib.hid hx
  have HL := Lib.hid hl
  have HSR := Lib.hid s4
  have HN := Lib.hid hN
  have HD := Lib.hid hD
  have HE1 := Lib.hid e1
  have HE2 := Lib.hid e2
  clear hx hl hS s4 hN hD e1 e2 hs0 hs0l hNs c0
  go_enter Try.func24, Try.ntmps24
  go_wp2_with fail
  refine (rnormal_is l (some ⟨zb, zo, none⟩) n c N n1 n3 HSR.out (by omega) _ (HX.out.lay (by repeat' (first | exact Below.refl _ _ | refine below_drewN ?_ _ | refine Below.drew ?_ | refine Below.alloc ?_ (by first | omega | (simp; done) | (simp; omega) | (simp [World.setCell]; omega)) _ | refine Below.setCell ?_ (by first | omega | (simp; done) | (simp; omega)) _)))).mono ?_
  rintro e w1 ⟨A1, c1, ts, A2, c2, rfl, hb, hm, hfm, hrn, hrg⟩
  have HB1 := Lib.hid (show Below w.heap.size w w1 from step_below hb (by repeat' (first | exact Below.refl _ _ | exact HB0.out | refine below_drewN ?_ _ | refine Below.drew ?_ | refine Below.alloc ?_ (by first | omega | (simp; done) | (simp; omega) | (simp [World.setCell]; omega)) _ | refine Below.setCell ?_ (by first | omega | (simp; done) | (simp; omega)) _ | assumption)))
  have K0_1 := Lib.hid (step_blk hb (show Blk _ (w.heap.size) 45 #[.slice none 0 0, .int .i64 (0)] by repeat' (first | exact Blk.at_ _ (by first | rfl | (simp; done) | (simp; omega)) _ _ | refine Blk.drewN ?_ _ | refine Blk.drew ?_ | refine Blk.alloc ?_ _ | refine Blk.far ?_ (by first | omega | (simp; done) | (simp; omega)) _ | assumption)))
  have hz1 := hb.size
  try simp only [World.size_alloc, World.drewN, World.drew] at hz1
  clear hb
  have l0_1 : w.heap.size < w1.heap.size := K0_1.out.lt
  have z0_0_1 : w1.cell? ⟨w.heap.size, 0, none⟩ = some (.slice none 0 0) := K0_1.out.cell 0
  have z0_1_1 : w1.cell? ⟨w.heap.size, 1, none⟩ = some (.int .i64 (0)) := K0_1.out.cell 1
  have HTM := Lib.hid hfm
  have HRN := Lib.hid hrn
  have HRT := Lib.hid hm
  have HRG := Lib.hid hrg
  clear ca hfm hrn
  have R0_1 := Lib.hid hm
  clear hm
  have R1_1 := Lib.hid hrg
  clear hrg
  have HA1 := Lib.hid (show Below w1.heap.size w1 w1 from Below.refl _ _)
  go_wp2_with fail
  refine (rdet_is N A1 c1 ts D (by rw [HTM.out]; exact HE1.out) (by rw [HTM.out]; exact HE2.out) HRN.out _ R0_1.out (by omega)).mono ?_
  rintro e w2 ⟨rfl, hb⟩
  have HB2 := Lib.hid (show Below w.heap.size w w2 from step_below hb (by repeat' (first | exact Below.refl _ _ | exact HB1.out | refine below_drewN ?_ _ | refine Below.drew ?_ | refine Below.alloc ?_ (by first | omega | (simp; done) | (simp; omega) | (simp [World.setCell]; omega)) _ | refine Below.setCell ?_ (by first | omega | (simp; done) | (simp; omega)) _ | assumption)))
  have K0_2 := Lib.hid (step_blk hb (show Blk _ (w.heap.size) 45 #[.slice none 0 0, .int .i64 (0)] by repeat' (first | exact K0_1.out | exact Blk.at_ _ (by first | rfl | (simp; done) | (simp; omega)) _ _ | refine Blk.drewN ?_ _ | refine Blk.drew ?_ | refine Blk.alloc ?_ _ | refine Blk.far ?_ (by first | omega | (simp; done) | (simp; omega)) _ | assumption)))
  have hL2 := Lib.hid (show Below w1.heap.size w1 _ from reads_mid hb (by repeat' (first | exact Below.refl _ _ | refine below_drewN ?_ _ | refine Below.drew ?_ | refine Below.alloc ?_ (by first | omega | (simp; done) | (simp; omega) | (simp [World.setCell]; omega)) _ | refine Below.setCell ?_ (by first | omega | (simp; done) | (simp; omega)) _)))
  have R0_2 := Lib.hid (readsT_lay hb hL2.out R0_1.out)
  have R1_2 := Lib.hid (reads_lay hb hL2.out R1_1.out)
  clear hL2 R0_1 R1_1
  have HA2 := Lib.hid (step_below hb HA1.out)
  clear HA1
  have hz2 := hb.size
  try simp only [World.size_alloc, World.drewN, World.drew] at hz2
  clear hb K0_1 z0_0_1 z0_1_1 l0_1
  have l0_2 : w.heap.size < w2.heap.size := K0_2.out.lt
  have z0_0_2 : w2.cell? ⟨w.heap.size, 0, none⟩ = some (.slice none 0 0) := K0_2.out.cell 0
  have z0_1_2 : w2.cell? ⟨w.heap.size, 1, none⟩ = some (.int .i64 (0)) := K0_2.out.cell 1
  by_cases hz : D = 0
  · have q0 : (D == 0) = true := by simpa using hz
    have hfz : fitF l = (([], 0), 11) := fitF_zero HN.out (by rw [HD.out]; exact hz)
    have HFZ := Lib.hid hfz
    clear hz hfz
    have zf0_0 := K0_2.out.frozen 0
    have zf0_1 := K0_2.out.frozen 1
    go_wp2
    exact bodyPost_ret (v := .tuple #[.agg #[.slice none 0 0, .int .i64 0], .int .i64 11]) (by simp [results, Try.results24, go_sem, z0_0_2, z0_1_2, l0_2]) rfl (RFitPost.mk' HFZ.out rfl (by repeat' (first | exact Below.refl _ _ | exact HB2.out | refine below_drewN ?_ _ | refine Below.drew ?_ | refine Below.alloc ?_ (by first | omega | (simp; done) | (simp; omega) | (simp [World.setCell]; omega)) _ | refine Below.setCell ?_ (by first | omega | (simp; done) | (simp; omega)) _ | assumption)) Reads.none_ (fun _ _ h => nomatch h))
  · have q0 : (D == 0) = false := by simpa using hz
    have HNZ := Lib.hid hz
    clear hz
    obtain ⟨F, hF⟩ : ∃ F, fitT l N = F := ⟨_, rfl⟩
    have hfT : F.length = N := by rw [← hF]; simp [fitT]
    have HFT := Lib.hid hF
    have HDI := Lib.hid (show InB 3000000000000000000 D by rw [← HD.out]; exact (fit_det n1 n3 (by have := HL.out; omega) HSR.out).2)
    clear hF
    go_wp2
    generalize hwn : (w2.alloc (.cells #[.slice none 0 0, .int .i64 (D)] 45)) = w3
    have hbn : Below w2.heap.size w2 w3 := by rw [← hwn]; repeat' (first | exact Below.refl _ _ | refine below_drewN ?_ _ | refine Below.drew ?_ | refine Below.alloc ?_ (by first | omega | (simp; done) | (simp; omega) | (simp [World.setCell]; omega)) _ | refine Below.setCell ?_ (by first | omega | (simp; done) | (simp; omega)) _)
    have HB3 := Lib.hid (show Below w.heap.size w w3 from HB2.out.trans (hbn.mono HB2.out.size))
    have K0_3 := Lib.hid (step_blk hbn K0_2.out)
    have K1_3 := Lib.hid (show Blk w3 (w2.heap.size) 45 #[.slice none 0 0, .int .i64 (D)] by rw [← hwn]; repeat' (first | exact Blk.at_ _ (by first | rfl | (simp; done) | (simp; omega)) _ _ | refine Blk.drewN ?_ _ | refine Blk.drew ?_ | refine Blk.alloc ?_ _ | refine Blk.far ?_ (by first | omega | (simp; done) | (simp; omega)) _ | assumption))
    have R0_3 := Lib.hid ((R0_2.out.below hbn).more hbn.size)
    have R1_3 := Lib.hid ((R1_2.out.below hbn).more hbn.size)
    have HA3 := Lib.hid (step_below hbn HA2.out)
    clear HA2
    have HN3 := Lib.hid hbn
    have hz3 := hbn.size
    clear hwn hbn K0_2 l0_2 z0_0_2 z0_1_2 R0_2 R1_2
    have l0_3 : w.heap.size < w3.heap.size := K0_3.out.lt
    have z0_0_3 : w3.cell? ⟨w.heap.size, 0, none⟩ = some (.slice none 0 0) := K0_3.out.cell 0
    have z0_1_3 : w3.cell? ⟨w.heap.size, 1, none⟩ = some (.int .i64 (0)) := K0_3.out.cell 1
    have l1_3 : w2.heap.size < w3.heap.size := K1_3.out.lt
    have z1_0_3 : w3.cell? ⟨w2.heap.size, 0, none⟩ = some (.slice none 0 0) := K1_3.out.cell 0
    have z1_1_3 : w3.cell? ⟨w2.heap.size, 1, none⟩ = some (.int .i64 (D)) := K1_3.out.cell 1
    have hmb3 : w2.heap.size < w3.heap.size := l1_3
    go_loopw [9, 10] (fun g i wr => ∃ (k : Nat) (vA : Option Addr) (vc : Nat), k ≤ N ∧ g = .int .i64 (gcdF D (F.take k)) ∧ i = .int .i64 k ∧ Tch (fun q => q = w2.heap.size) w3 wr ∧ Blk wr w2.heap.size 45 #[.slice vA k vc, .int .i64 D] ∧ wr.ownsRow w3.heap.size 3 1 (.slice vA k vc) k ((F.take k).map (.int .i64))) (fun _ i _ => N - (intOf i).toNat)
    case atStart => exact ⟨0, none, 0, by omega, rfl, rfl, Tch.refl _ _, K1_3.out, World.ownsRow_nil _ _ _ _⟩
    case round =>
      obtain ⟨k, vA, vc, hkN, rfl, rfl, ht, hm6, ho6⟩ := hrel
      obtain ⟨w6, hnm⟩ : ∃ z : World, z = wr := ⟨_, rfl⟩
      subst hnm
      have HT6 := Lib.hid ht
      have HM6 := Lib.hid hm6
      have HO6 := Lib.hid ho6
      clear ht hm6 ho6
      by_cases hlt : k < N
      rotate_left
      · obtain rfl : N = k := by omega
        rw [List.take_of_length_le (by omega : F.length ≤ N)] at HO6 ⊢
        obtain ⟨G, hG⟩ : ∃ G, gcdF D F = G := ⟨_, rfl⟩
        have hDp : 0 < D := by have h1 := gram_nonneg l n1 n3; rw [HD.out] at h1; have h2 := HNZ.out; omega
        have hgi := gcdF_in F D (by omega)
        rw [hG] at hgi
        have g1 : 1 ≤ G := hgi.1
        have gD : G ∣ D := hG ▸ (gcdF_dvd F D).1
        have gF : ∀ z ∈ F, G ∣ z := hG ▸ (gcdF_dvd F D).2
        have gB : ∀ z ∈ F, InB 3000000000000000000 z := HFT.out ▸ fitT_in n1 n3 (by have := HL.out; omega) HSR.out
        rw [hG]
        have HG := Lib.hid hG
        have HMS := Lib.hid (mdl_small hfT n1 n3 hDp hG)
        have HGD := Lib.hid gF
        have HGB := Lib.hid gB
        have g0 : ¬ G = 0 := by omega
        have e1 : D.tdiv G = D / G := Int.tdiv_eq_ediv_of_dvd gD
        have bq := div_inb (G := G) HDI.out
        unfold InB at bq
        have e2 : IntKind.i64.wrap (D / G) = D / G := IntWalk.i64_in _ ⟨by omega, by omega⟩
        have c0 := HM6.out.cell 0
        have c1 := HM6.out.cell 1
        have cf := HM6.out.frozen 1
        clear hG gD gF gB bq hlt hgi
        go_wp2
        generalize hw7 : World.setCell _ _ _ = w7
        have hm7 : Blk w7 w2.heap.size 45 #[.slice vA N vc, .int .i64 (D / G)] := by
          rw [← hw7]
          have := HM6.out.set_ 1 (.int .i64 (D / G))
          simpa only [List.setIfInBounds_toArray, List.set_cons_zero, List.set_cons_succ] using this
        have hqo : ∀ q, (Value.slice vA N vc).ownBlock = some q → w3.heap.size ≤ q ∧ q < w6.heap.size := fun q hq => own_lt HO6.out hq
        have ho7 : w7.ownsRow w3.heap.size 3 1 (.slice vA N vc) N (F.map (.int .i64)) := by rw [← hw7]; exact own_set HO6.out (fun e => by have := hqo _ e; simp at this; omega) _
        have ht7 : Tch (fun q => q = w2.heap.size) w3 w7 := by rw [← hw7]; exact HT6.out.setCell (.inl rfl) _
        obtain ⟨gv, ext, rfl, hg5, hgc, hgb⟩ := own_block1 ho7 (by omega)
        have HM7 := Lib.hid hm7
        have HT7 := Lib.hid ht7
        have HG7 := Lib.hid hgb
        have hgl := hgb.lt
        have hs7 := ht7.size
        clear hw7 hm7 hqo ho7 ht7 hgb c0 c1 cf HM6 HO6 HT6 e1 e2
        go_loopw [13] (fun i wr => ∃ k : Nat, k ≤ N ∧ i = .int .i64 k ∧ Tch (fun q => q = gv) w7 wr ∧ Blk wr gv 3 ((divTo F G k).map (Value.int .i64) ++ ext).toArray) (fun i _ => N - (intOf i).toNat)
        case atStart => exact ⟨0, by omega, rfl, Tch.refl _ _, by rw [divTo_zero]; exact HG7.out⟩
        case round =>
          obtain ⟨k, hkN, rfl, ht8, hg8⟩ := hrel
          obtain ⟨w8, hnm⟩ : ∃ z : World, z = wr := ⟨_, rfl⟩
          subst hnm
          have hm8 := ht8.blk HM7.out (show ¬ w2.heap.size = gv by omega)
          have c0 := hm8.cell 0
          have c1 := hm8.cell 1
          have HT8 := Lib.hid ht8
          have HG8 := Lib.hid hg8
          have HM8 := Lib.hid hm8
          have hl8 := hg8.lt
          have hlm8 := hm8.lt
          have hs8 := ht8.size
          clear ht8 hg8 hm8
          by_cases hlt : k < N
          · obtain ⟨z, hz⟩ : ∃ z, F[k]? = some z := ⟨_, List.getElem?_eq_getElem (by omega)⟩
            have hcl : ((divTo F G k).map (Value.int .i64) ++ ext).toArray[k]? = some (.int .i64 z) := by
              rw [List.getElem?_toArray, List.getElem?_append_left (by rw [List.length_map, divTo_len]; omega), List.getElem?_map, divTo_at hz]
              rfl
            have cc := (HG8.out.cell k).trans hcl
            have cf := HG8.out.frozen k
            have hzG := HGD.out z (List.mem_of_getElem? hz)
            have e1 : z.tdiv G = z / G := Int.tdiv_eq_ediv_of_dvd hzG
            have bq := div_inb (G := G) (HGB.out z (List.mem_of_getElem? hz))
            unfold InB at bq
            have e2 : IntKind.i64.wrap (z / G) = z / G := IntWalk.i64_in _ ⟨by omega, by omega⟩
            have HZ := Lib.hid hz
            have hkk : (k : Int) < (N : Int) := by omega
            clear hcl hzG bq hz
            go_wp2
            obtain ⟨W0, hW0⟩ : ∃ W0, W0 = w8.drewN 1 := ⟨_, rfl⟩
            have m0 : W0.cell? ⟨w2.heap.size, 0, none⟩ = some (.slice (some ⟨gv, 0, none⟩) N vc) := by rw [hW0]; exact c0
            have mo : W0.cell? ⟨gv, k, none⟩ = some (.int .i64 z) := by rw [hW0]; exact cc
            have mf : W0.frozen? ⟨gv, k, none⟩ = false := by rw [hW0]; exact cf
            refine Fx.region (fun f w' => (f 11 = false → w' = W0) ∧ (f 11 = true → w' = W0.setCell ⟨gv, k, none⟩ (.int .i64 (z / G)))) (by kernel_rfl) (by kernel_rfl) ?_ ?_
            · intro f hf0
              exact ⟨fun _ => hW0.symm, fun h => by rw [hf0 11] at h; cases h⟩
            have HW0 := Lib.hid hW0
            clear hW0
            repeat (first
              | (refine Fx.skip_ (by rfl) (fun f w h => h) ?_; simp only [Act.put, List.setIfInBounds_toArray, List.set_cons_zero, List.set_cons_succ])
              | (refine Fx.val_ ?_ (by rfl) ?_ (fun f w h => h) ?_
                 rotate_left
                 · intro f w' hD hk
                   obtain ⟨jw, jr⟩ := id hD
                   have jw := jw (hk.2.1 11 (by kernel_rfl))
                   have q0 : w'.cell? ⟨w2.heap.size, 0, none⟩ = some (.slice (some ⟨gv, 0, none⟩) N vc) := by rw [jw]; exact m0
                   have qo : w'.cell? ⟨gv, k, none⟩ = some (.int .i64 z) := by rw [jw]; exact mo
                   clear hk hD jw jr
                   go_simp
                   try rfl
                 simp only [Act.put, List.setIfInBounds_toArray, List.set_cons_zero, List.set_cons_succ]))
            refine Fx.store_ (fun w' => w'.setCell ⟨gv, k, none⟩ (.int .i64 (z / G))) (by rfl) ?_ ?_ ?_
            · intro f w' hD hk
              obtain ⟨jw, jr⟩ := id hD
              have jw := jw hk.1
              have q0 : w'.cell? ⟨gv, k, none⟩ = some (.int .i64 z) := by rw [jw]; exact mo
              have q1 : w'.frozen? ⟨gv, k, none⟩ = false := by rw [jw]; exact mf
              clear hk hD jw jr
              go_simp
            · intro f w' hD hk
              obtain ⟨jw, jr⟩ := id hD
              have jw := jw hk.1
              exact ⟨fun h => by simp [Fx.add] at h, fun _ => by rw [jw]⟩
            simp only [Act.put, List.setIfInBounds_toArray, List.set_cons_zero, List.set_cons_succ]
            refine Fx.nil_ ?_
            intro f w9 hall hD
            have hwn := hD.2 (hall 11 (by simp))
            rw [HW0.out] at hwn
            clear hall hD HW0 mo mf m0
            have ht9 : Tch (fun q => q = gv) w7 w9 := by rw [hwn]; exact (HT8.out.drewN 1).setCell (.inl rfl) _
            have hg9 : Blk w9 gv 3 ((divTo F G (k + 1)).map (Value.int .i64) ++ ext).toArray := by
              rw [hwn]
              have := (Blk.drewN HG8.out 1).set_ k (.int .i64 (z / G))
              rw [List.setIfInBounds_toArray, List.set_append_left _ _ (by rw [List.length_map, divTo_len]; omega), ← List.map_set, divTo_succ HZ.out] at this
              exact this
            have HT9 := Lib.hid ht9
            have HG9 := Lib.hid hg9
            clear ht9 hg9 hwn
            go_wp2
            go_roundw
            case rel => exact ⟨k + 1, by omega, by go_num, HT9.out, HG9.out⟩
            case measure => simp [intOf]; omega
          · obtain rfl : N = k := by omega
            have hg9 := HG8.out
            rw [divTo_all hfT] at hg9
            have hrd : Reads w8 w8.heap.size 1 (some ⟨gv, 0, none⟩) N ((F.map (· / G)).map (Value.int .i64)) := Reads.take_ext hg9 (by simp [hfT])
            obtain ⟨S, hSm⟩ : ∃ S, smallL 1000000000000 (D / G :: F.map (· / G)) = S := ⟨_, rfl⟩
            have hfit := fitF_rest HN.out HD.out HFT.out HG.out HNZ.out
            rw [hSm] at hfit
            have hms := HMS.out
            rw [hSm] at hms
            have hB9 : Below w2.heap.size w3 w8 := (HT7.out.below (B := w2.heap.size) (fun q hq => by have hq : q = w2.heap.size := hq; omega) (by omega)).trans (HT8.out.below (B := w2.heap.size) (fun q hq => by have hq : q = gv := hq; omega) (by omega))
            have hbw9 : Below w.heap.size w w8 := HB3.out.trans (hB9.mono (by omega))
            have hk9 := K0_3.out.below hB9 (by omega)
            have hm9 := HM8.out
            have HRD := Lib.hid hrd
            have HFI := Lib.hid hfit
            have HMS' := Lib.hid hms
            obtain ⟨E', hE', hS'⟩ : ∃ E', mdlErr (F.map (· / G)) (D / G) = E' ∧ E' = if S = false then 2 else 0 := ⟨_, rfl, hms⟩
            have HE' := Lib.hid hE'
            have HS' := Lib.hid hS'
            clear hg9 hrd hfit hms hB9 hSm c0 c1 HMS' hE' hS'
            have HB9 := Lib.hid hbw9
            have K0_9 := Lib.hid (show Blk w8 (w.heap.size) 45 #[.slice none 0 0, .int .i64 (0)] from hk9)
            have K1_9 := Lib.hid (show Blk w8 (w2.heap.size) 45 #[.slice (some ⟨gv, 0, none⟩) N vc, .int .i64 (D / G)] from hm9)
            clear hbw9 hk9 hm9
            have l0_9 : w.heap.size < w8.heap.size := K0_9.out.lt
            have z0_0_9 : w8.cell? ⟨w.heap.size, 0, none⟩ = some (.slice none 0 0) := K0_9.out.cell 0
            have z0_1_9 : w8.cell? ⟨w.heap.size, 1, none⟩ = some (.int .i64 (0)) := K0_9.out.cell 1
            have l1_9 : w2.heap.size < w8.heap.size := K1_9.out.lt
            have z1_0_9 : w8.cell? ⟨w2.heap.size, 0, none⟩ = some (.slice (some ⟨gv, 0, none⟩) N vc) := K1_9.out.cell 0
            have z1_1_9 : w8.cell? ⟨w2.heap.size, 1, none⟩ = some (.int .i64 (D / G)) := K1_9.out.cell 1
            go_wp2_with fail
            refine (rmodel_is (some ⟨gv, 0, none⟩) N vc (F.map (· / G)) (D / G) E' HE'.out _ HRD.out (by omega)).mono ?_
            rintro e w10 ⟨rfl, hb⟩
            have hgx := HG8.out.below hb HG8.out.lt
            rw [divTo_all hfT] at hgx
            have HGX := Lib.hid hgx
            clear hgx
            have HB10 := Lib.hid (show Below w.heap.size w w10 from step_below hb (by repeat' (first | exact Below.refl _ _ | exact HB9.out | refine below_drewN ?_ _ | refine Below.drew ?_ | refine Below.alloc ?_ (by first | omega | (simp; done) | (simp; omega) | (simp [World.setCell]; omega)) _ | refine Below.setCell ?_ (by first | omega | (simp; done) | (simp; omega)) _ | assumption)))
            have K0_10 := Lib.hid (step_blk hb (show Blk _ (w.heap.size) 45 #[.slice none 0 0, .int .i64 (0)] by repeat' (first | exact K0_9.out | exact K1_9.out | exact Blk.at_ _ (by first | rfl | (simp; done) | (simp; omega)) _ _ | refine Blk.drewN ?_ _ | refine Blk.drew ?_ | refine Blk.alloc ?_ _ | refine Blk.far ?_ (by first | omega | (simp; done) | (simp; omega)) _ | assumption)))
            have K1_10 := Lib.hid (step_blk hb (show Blk _ (w2.heap.size) 45 #[.slice (some ⟨gv, 0, none⟩) N vc, .int .i64 (D / G)] by repeat' (first | exact K0_9.out | exact K1_9.out | exact Blk.at_ _ (by first | rfl | (simp; done) | (simp; omega)) _ _ | refine Blk.drewN ?_ _ | refine Blk.drew ?_ | refine Blk.alloc ?_ _ | refine Blk.far ?_ (by first | omega | (simp; done) | (simp; omega)) _ | assumption)))
            have hz10 := hb.size
            try simp only [World.size_alloc, World.drewN, World.drew] at hz10
            clear hb K0_9 K1_9 z0_0_9 z0_1_9 l0_9 z1_0_9 z1_1_9 l1_9
            have l0_10 : w.heap.size < w10.heap.size := K0_10.out.lt
            have z0_0_10 : w10.cell? ⟨w.heap.size, 0, none⟩ = some (.slice none 0 0) := K0_10.out.cell 0
            have z0_1_10 : w10.cell? ⟨w.heap.size, 1, none⟩ = some (.int .i64 (0)) := K0_10.out.cell 1
            have l1_10 : w2.heap.size < w10.heap.size := K1_10.out.lt
            have z1_0_10 : w10.cell? ⟨w2.heap.size, 0, none⟩ = some (.slice (some ⟨gv, 0, none⟩) N vc) := K1_10.out.cell 0
            have z1_1_10 : w10.cell? ⟨w2.heap.size, 1, none⟩ = some (.int .i64 (D / G)) := K1_10.out.cell 1
            cases S
            · obtain rfl : E' = 2 := by simpa using HS'.out
              have hfit := HFI.out
              rw [if_pos rfl] at hfit
              have HFI2 := Lib.hid hfit
              clear hfit HFI
              have zf0_0 := K0_10.out.frozen 0
              have zf0_1 := K0_10.out.frozen 1
              go_wp2
              exact bodyPost_ret (v := .tuple #[.agg #[.slice none 0 0, .int .i64 0], .int .i64 8]) (by simp [results, Try.results24, go_sem, z0_0_10, z0_1_10, l0_10]) rfl (RFitPost.mk' HFI2.out rfl (by repeat' (first | exact Below.refl _ _ | exact HB10.out | refine below_drewN ?_ _ | refine Below.drew ?_ | refine Below.alloc ?_ (by first | omega | (simp; done) | (simp; omega) | (simp [World.setCell]; omega)) _ | refine Below.setCell ?_ (by first | omega | (simp; done) | (simp; omega)) _ | assumption)) Reads.none_ (fun _ _ h => nomatch h))
            · obtain rfl : E' = 0 := by simpa using HS'.out
              have hfit := HFI.out
              rw [if_neg (by simp)] at hfit
              have HFI2 := Lib.hid hfit
              clear hfit HFI
              have zf0_0 := K0_10.out.frozen 0
              have zf0_1 := K0_10.out.frozen 1
              go_wp2
              have hgx := (HGX.out.far (p := ⟨w.heap.size, 0, none⟩) (by simp; omega) (.slice (some ⟨gv, 0, none⟩) N vc)).far (p := ⟨w.heap.size, 1, none⟩) (by simp; omega) (.int .i64 (D / G))
              exact bodyPost_ret (v := .tuple #[.agg #[.slice (some ⟨gv, 0, none⟩) N vc, .int .i64 (D / G)], .int .i64 0]) (by simp [results, Try.results24, go_sem, z0_0_10, z0_1_10, l0_10]) rfl
                (RFitPost.mk' (A := some ⟨gv, 0, none⟩) (c := vc) HFI2.out (by rw [List.length_map, hfT]) (by repeat' (first | exact Below.refl _ _ | exact HB10.out | refine below_drewN ?_ _ | refine Below.drew ?_ | refine Below.alloc ?_ (by first | omega | (simp; done) | (simp; omega) | (simp [World.setCell]; omega)) _ | refine Below.setCell ?_ (by first | omega | (simp; done) | (simp; omega)) _ | assumption)) (by rw [List.length_map, hfT]; exact Reads.take_ext hgx (by simp [hfT])) (fun b o h => by cases h; omega))
      have hz12 : w1.heap.size ≤ w2.heap.size := hz2
      have hbw6 : Below w1.heap.size w1 w6 := HA3.out.trans (HT6.out.below (B := w1.heap.size) (fun q hq => by have hq : q = w2.heap.size := hq; omega) (by omega))
      have hrt6 := (HRT.out.below hbw6).more hbw6.size
      have HBW6 := Lib.hid hbw6
      have HRT6 := Lib.hid hrt6
      have hs36 := HT6.out.size
      have hkk : (k : Int) < (N : Int) := by omega
      clear hbw6 hrt6
      go_wp2_with fail
      refine (copyown_any A1 N c1 ts _ HRT6.out (by omega) (fun r hr => by rw [HRN.out r hr]; omega)).mono ?_
      rintro e w7 ⟨hb7, A', c', t2, rfl, ht2, ho2, hsep2⟩
      have hn2 : ∀ r ∈ t2, r.n = N := fun r hr => by
        have h1 : r.xs ∈ ts.map TRow.xs := by rw [← ht2]; exact List.mem_map.2 ⟨r, hr, rfl⟩
        obtain ⟨r', h2, h3⟩ := List.mem_map.1 h1
        have h4 := ho2.at_.rlen hr
        have h5 := HRT.out.rlen h2
        rw [HRN.out r' h2, h3] at h5
        omega
      have HB7 := Lib.hid hb7
      have HT2 := Lib.hid (ht2.trans HTM.out)
      have HO2 := Lib.hid ho2
      have HSEP := Lib.hid hsep2
      have HN2 := Lib.hid hn2
      have hs67 := hb7.size
      clear hb7 ht2 ho2 hsep2 hn2
      go_wp2
      go_loopw [12] (fun i wr => ∃ (i' : Nat) (t3 : List TRow), i' ≤ N ∧ i = .int .i64 i' ∧ Tch (fun g => w6.heap.size ≤ g) w7 wr ∧ t3.map TRow.xs = colTo k i' (fitM l N) (rgtL l N) ∧ (∀ r ∈ t3, r.n = N) ∧ RowsOwn w6.heap.size t3 (.slice A' N c') N wr ∧ RowsSep t3) (fun i _ => N - (intOf i).toNat)
      case atStart => exact ⟨0, t2, by omega, rfl, Tch.refl _ _, by rw [colTo_zero]; exact HT2.out, HN2.out, HO2.out, HSEP.out⟩
      case round =>
        obtain ⟨i, t3, hi, rfl, ht8, ht3, hn3, ho3, hsp3⟩ := hrel
        obtain ⟨w8, hnm⟩ : ∃ z : World, z = wr := ⟨_, rfl⟩
        subst hnm
        have HT8 := Lib.hid ht8
        have HT3 := Lib.hid ht3
        have HN3 := Lib.hid hn3
        have HO3 := Lib.hid ho3
        have HSP3 := Lib.hid hsp3
        have hs78 := ht8.size
        have hb8 : Below w6.heap.size w6 w8 := (HB7.out).trans (ht8.below (B := w6.heap.size) (fun q hq => hq) hs67)
        have HB68 := Lib.hid hb8
        clear ht8 ht3 hn3 ho3 hsp3 hb8
        by_cases hlt2 : i < N
        · obtain ⟨ob, oo, r, rfl, hob, hr, d0, -, hrl, hrr⟩ := HO3.out.at_.at_ hlt2
          have hrN := HN3.out r (List.mem_of_getElem? hr)
          have hfm : (fitM l N)[i]? = some r.xs := by
            have h1 := congrArg (fun z => z[i]?) HT3.out
            simp only [List.getElem?_map, hr, Option.map_some] at h1
            cases hf : (fitM l N)[i]? with
            | none => rw [List.getElem?_eq_none (by unfold colTo; rw [List.length_mapIdx]; exact List.getElem?_eq_none_iff.1 hf)] at h1; cases h1
            | some x => rw [colTo_get hf] at h1; exact h1.symm
          obtain ⟨yb, yo, z, hA2, hyb, hz, y0⟩ := HRG.out.int_ hlt2
          have hbw8 := HBW6.out.trans (HB68.out.mono HBW6.out.size)
          have y1 := (hbw8.cell (p := ⟨yb, yo + i, none⟩) hyb).trans y0
          obtain ⟨gr, cap, hv, hg1, hg2, hfz, hst⟩ := RowsOwn.store (k := k) (HO3.out.below (below_drewN (Below.refl _ _) 1)) HSP3.out hr (by omega) z
          obtain ⟨rA, rn, rc, rx⟩ := r
          simp only [TRow.val] at hv d0 hrl hrr hrN hfm hst
          subst hrN
          obtain ⟨rfl, rfl⟩ : rA = some ⟨gr, 0, none⟩ ∧ rc = cap := by simpa using hv
          obtain ⟨_, _, x, hAx, -, hxk, x0⟩ := hrr.int_ (show k < rn by omega)
          cases hAx
          simp only [Nat.zero_add] at x0
          have hii : (i : Int) < (rn : Int) := by omega
          have hfz' : w8.frozen? ⟨gr, k, none⟩ = false := hfz
          subst hA2
          have HST := Lib.hid hst
          have HR := Lib.hid hr
          have HFM := Lib.hid hfm
          have HZ := Lib.hid hz
          clear hst hr hfm hz hxk hrl hrr hv hfz hyb y0 hbw8
          go_wp2
          obtain ⟨W0, hW0⟩ : ∃ W0, W0 = w8.drewN 1 := ⟨_, rfl⟩
          have m0 : W0.cell? ⟨ob, oo + i, none⟩ = some (.slice (some ⟨gr, 0, none⟩) rn rc) := by rw [hW0]; exact d0
          have m1 : W0.cell? ⟨yb, yo + i, none⟩ = some (.int .i64 z) := by rw [hW0]; exact y1
          have mo : W0.cell? ⟨gr, k, none⟩ = some (.int .i64 x) := by rw [hW0]; exact x0
          have mf : W0.frozen? ⟨gr, k, none⟩ = false := by rw [hW0]; exact hfz'
          refine Fx.region (fun f w' => (f 10 = false → w' = W0) ∧ (f 10 = true → w' = W0.setCell ⟨gr, k, none⟩ (.int .i64 z))) (by kernel_rfl) (by kernel_rfl) ?_ ?_
          · intro f hf0
            exact ⟨fun _ => hW0.symm, fun h => by rw [hf0 10] at h; cases h⟩
          have HW0 := Lib.hid hW0
          clear hW0
          repeat (first
            | (refine Fx.skip_ (by rfl) (fun f w h => h) ?_; simp only [Act.put, List.setIfInBounds_toArray, List.set_cons_zero, List.set_cons_succ])
            | (refine Fx.val_ ?_ (by rfl) ?_ (fun f w h => h) ?_
               rotate_left
               · intro f w' hD hk
                 obtain ⟨jw, jr⟩ := id hD
                 have jw := jw (hk.2.1 10 (by kernel_rfl))
                 have q0 : w'.cell? ⟨ob, oo + i, none⟩ = some (.slice (some ⟨gr, 0, none⟩) rn rc) := by rw [jw]; exact m0
                 have q1 : w'.cell? ⟨yb, yo + i, none⟩ = some (.int .i64 z) := by rw [jw]; exact m1
                 have qo : w'.cell? ⟨gr, k, none⟩ = some (.int .i64 x) := by rw [jw]; exact mo
                 clear hk hD jw jr
                 go_simp
                 try rfl
               simp only [Act.put, List.setIfInBounds_toArray, List.set_cons_zero, List.set_cons_succ]))
          refine Fx.store_ (fun w' => w'.setCell ⟨gr, k, none⟩ (.int .i64 z)) (by rfl) ?_ ?_ ?_
          · intro f w' hD hk
            obtain ⟨jw, jr⟩ := id hD
            have jw := jw hk.1
            have q0 : w'.cell? ⟨gr, k, none⟩ = some (.int .i64 x) := by rw [jw]; exact mo
            have q1 : w'.frozen? ⟨gr, k, none⟩ = false := by rw [jw]; exact mf
            clear hk hD jw jr
            go_simp
          · intro f w' hD hk
            obtain ⟨jw, jr⟩ := id hD
            have jw := jw hk.1
            exact ⟨fun h => by simp [Fx.add] at h, fun _ => by rw [jw]⟩
          simp only [Act.put, List.setIfInBounds_toArray, List.set_cons_zero, List.set_cons_succ]
          refine Fx.nil_ ?_
          intro f w9 hall hD
          have hwn := hD.2 (hall 10 (by simp))
          rw [HW0.out] at hwn
          clear hall hD HW0 mo mf m0 m1
          have ht9 : Tch (fun g => w6.heap.size ≤ g) w7 w9 := by rw [hwn]; exact (HT8.out.drewN 1).setCell (.inl hg1) _
          have ho9 : RowsOwn w6.heap.size (t3.set i ⟨some ⟨gr, 0, none⟩, rn, rc, rx.set k z⟩) (.slice (some ⟨ob, oo, none⟩) rn c') rn w9 := by rw [hwn]; exact HST.out
          have HT9 := Lib.hid ht9
          have HO9 := Lib.hid ho9
          clear ht9 ho9 hwn
          go_wp2
          go_roundw
          case rel =>
            refine ⟨i + 1, t3.set i ⟨some ⟨gr, 0, none⟩, rn, rc, rx.set k z⟩, by omega, by go_num, HT9.out, ?_, fun r hr => ?_, HO9.out, sep_vals (vals_set HR.out _) HSP3.out⟩
            · rw [List.map_set, HT3.out]
              exact colTo_set HFM.out HZ.out
            · rcases List.mem_or_eq_of_mem_set hr with h | rfl
              · exact HN3.out r h
              · rfl
          case measure => simp [intOf]; omega
        · obtain rfl : N = i := by omega
          have hcol : t3.map TRow.xs = colSet k (fitM l N) (rgtL l N) := by rw [HT3.out, colTo_all (fitM_len l N)]
          obtain ⟨E, hE⟩ : ∃ E, detM ((fitM l N).set k (rgtL l N)) = E := ⟨_, rfl⟩
          obtain ⟨g1, g2⟩ := star_det_at n1 n3 hlt HSR.out (by have := HL.out; omega)
          rw [hE, ← hcol] at g1
          rw [← hcol] at g2
          have hEI := (fit_det_at (p := k) n1 n3 (by have := HL.out; omega) HSR.out).2
          rw [hE] at hEI
          have hFk : F[k]? = some E := by rw [← HFT.out, fitT, List.getElem?_map, List.getElem?_range hlt, ← hE]; rfl
          have hqo : ∀ q, (Value.slice vA k vc).ownBlock = some q → w3.heap.size ≤ q ∧ q < w6.heap.size := fun q hq => own_lt HO6.out hq
          have hm8 : Blk w8 w2.heap.size 45 #[.slice vA k vc, .int .i64 D] := Blk.below HM6.out HB68.out (by omega)
          have ho8 := own_below HO6.out HB68.out (Nat.le_refl _)
          have ht8 : Tch (fun q => q = w2.heap.size) w3 w8 := HT6.out.call HB68.out
          have HG1 := Lib.hid g1
          have HG2 := Lib.hid g2
          have HEI := Lib.hid hEI
          have HFK := Lib.hid hFk
          have HM8 := Lib.hid hm8
          have HO8 := Lib.hid ho8
          have HT38 := Lib.hid ht8
          have hneM : (Value.slice vA k vc).ownBlock ≠ some w2.heap.size := fun e => by have := hqo _ e; omega
          have hsz8 : w3.heap.size ≤ w8.heap.size := by omega
          clear hcol hE g1 g2 hEI hFk hm8 ho8 ht8
          go_wp2
          have hownS := HO8.out
          have hblkS := HM8.out
          have hneS := hneM
          refine Fx.regionM (fun W g f w' => As (w3.heap.size) 3 1 (.slice vA k vc) (k) ((F.take k).map (.int .i64)) [.int .i64 E] 4 5 7 (w2.heap.size) 45 #[.slice vA k vc, .int .i64 (D)] 0 W g f w') (fun i (x : Pick) => if i = 4 then .slice x.1 1 1 else .slice x.1 (k + 1) x.2) (by kernel_rfl) ?_ ?_
          · intro f hf0
            exact As.start hownS hblkS hneS (hf0 7) 1
          first
          | (refine Fx.WM.skip 0 (by rfl) (by kernel_rfl) (by kernel_rfl) (by kernel_rfl) (by rfl) (fun g f w h => As.same h (by decide)) ?_; simp only [Act.put, List.setIfInBounds_toArray, List.set_cons_zero, List.set_cons_succ])
          | (refine Fx.WM.val_ 0 ?_ (by rfl) (by kernel_rfl) (by kernel_rfl) (by kernel_rfl) (by rfl) ?_ (fun g f w h => As.same h (by decide)) ?_
             rotate_left
             · intro g f w' hx hD hk
               obtain has := id hD
               clear hx hk hD has
               go_simp
               try rfl
             simp only [Act.put, List.setIfInBounds_toArray, List.set_cons_zero, List.set_cons_succ])
          first
          | (refine Fx.WM.skip 2 (by rfl) (by kernel_rfl) (by kernel_rfl) (by kernel_rfl) (by rfl) (fun g f w h => As.same h (by decide)) ?_; simp only [Act.put, List.setIfInBounds_toArray, List.set_cons_zero, List.set_cons_succ])
          | (refine Fx.WM.val_ 2 ?_ (by rfl) (by kernel_rfl) (by kernel_rfl) (by kernel_rfl) (by rfl) ?_ (fun g f w h => As.same h (by decide)) ?_
             rotate_left
             · intro g f w' hx hD hk
               obtain has := id hD
               clear hx hk hD has
               go_simp
               try rfl
             simp only [Act.put, List.setIfInBounds_toArray, List.set_cons_zero, List.set_cons_succ])
          first
          | (refine Fx.WM.skip 1 (by rfl) (by kernel_rfl) (by kernel_rfl) (by kernel_rfl) (by rfl) (fun g f w h => As.same h (by decide)) ?_; simp only [Act.put, List.setIfInBounds_toArray, List.set_cons_zero, List.set_cons_succ])
          | (refine Fx.WM.val_ 1 ?_ (by rfl) (by kernel_rfl) (by kernel_rfl) (by kernel_rfl) (by rfl) ?_ (fun g f w h => As.same h (by decide)) ?_
             rotate_left
             · intro g f w' hx hD hk
               obtain has := id hD
               have hst := (hk.2.1 7 (by kernel_rfl))
               have qf := (has.cell hst 0).1
               clear hx hk hD has hst
               go_simp
               try rfl
             simp only [Act.put, List.setIfInBounds_toArray, List.set_cons_zero, List.set_cons_succ])
          refine Fx.WM.call 3 (.int .i64 (E)) ?_ ?_ (by rfl) (by kernel_rfl) (by kernel_rfl) (by kernel_rfl) (by rfl) ?_ ?_ ?_
          rotate_left 2
          · intro w'
            go_simp
            refine ⟨?_, ?_⟩ <;> rfl
          · intro g f w' hx hD hk
            have has := hD
            exact (rdet_is N A' c' t3 E HG1.out HG2.out HN3.out _ (RowsOwn.keep HO3.out (fun q h1 h2 => has.keep q h2 (fun e => by have := hqo _ e; omega) (fun e => by omega))).at_ (by omega)).mono fun e w'' ⟨he, hw⟩ => ⟨he, As.call hD hw (by decide)⟩
          simp only [Act.put, List.setIfInBounds_toArray, List.set_cons_zero, List.set_cons_succ]
          refine Fx.WM.choose 4 (by rfl) (by kernel_rfl) (by rfl) ?_ ?_
          · skip
            refine Fx.Chooses.make (by rfl) ?_
            intro f w' hD hk
            refine ⟨(some ⟨w'.heap.size, 0, none⟩, 0), w'.alloc (.cells #[.int .i64 E] 3), ?_, ?_⟩
            · clear hk hD
              go_simp
              try rfl
            · exact As.mk_lit hD (by decide) (by decide)
          intro x
          simp only [Act.put, List.setIfInBounds_toArray, List.set_cons_zero, List.set_cons_succ]
          refine Fx.WM.choose 5 (by rfl) (by kernel_rfl) (by rfl) ?_ ?_
          · skip
            refine Fx.Chooses.make (by rfl) ?_
            intro f w' hD hk
            obtain ⟨y', w2', hrun, hD2⟩ := As.app (P := Try.prog) (c := 1) hD Try.underlying43 info_int rfl (by omega) (by simp [Value.oneCell']) rfl (hsz8) (by unfold maxLen; omega) (by omega) (x := x) (by rfl) (by rfl) (by decide) (by decide) (hk.2.1 7 (by kernel_rfl))
            exact ⟨y', w2', exec_append _ _ _ rfl hrun, hD2⟩
          intro y
          simp only [Act.put, List.setIfInBounds_toArray, List.set_cons_zero, List.set_cons_succ]
          first
          | (refine Fx.WM.skip 6 (by rfl) (by kernel_rfl) (by kernel_rfl) (by kernel_rfl) (by rfl) (fun g f w h => As.same h (by decide)) ?_; simp only [Act.put, List.setIfInBounds_toArray, List.set_cons_zero, List.set_cons_succ])
          | (refine Fx.WM.val_ 6 ?_ (by rfl) (by kernel_rfl) (by kernel_rfl) (by kernel_rfl) (by rfl) ?_ (fun g f w h => As.same h (by decide)) ?_
             rotate_left
             · intro g f w' hx hD hk
               obtain has := id hD
               clear hx hk hD has
               go_simp
               try rfl
             simp only [Act.put, List.setIfInBounds_toArray, List.set_cons_zero, List.set_cons_succ])
          refine Fx.WM.eff 7 undef (by rfl) (by kernel_rfl) (by kernel_rfl) (by kernel_rfl) (by rfl) ?_ ?_
          · intro g f w' hx hD hk
            have hst : f 7 = false := hk.1
            obtain ⟨qf, pf⟩ := As.cell hD hst 0
            refine Fx.gives_skip (w' := (w'.setCell ⟨w2.heap.size, 0, none⟩ (.slice y.1 (k + 1) y.2))) ?_ ?_
            · clear hx hk hD hst
              go_simp
              try rfl
            · exact As.store hD (hx 5 _ (by rfl)) hk.1
          simp only [Act.put, List.setIfInBounds_toArray, List.set_cons_zero, List.set_cons_succ]
          refine Fx.WM.nil (by kernel_rfl) ?_
          intro w9 has
          obtain ⟨hoA, hfb⟩ := As.ends has (y := y) (by rfl) (by rfl)
          have ht9 : Tch (fun q => q = w2.heap.size) w3 w9 := by
            refine HT38.out.then_ (Y := fun q => q = w2.heap.size ∨ (Value.slice vA k vc).ownBlock = some q) ⟨has.os, has.tape, has.output, has.size, fun i hi hx => has.keep i hi (fun e => hx (.inr e)) (fun e => hx (.inl e))⟩ fun i hi hx => ?_
            rcases hx with h | h
            · exact h
            · have := (hqo i h).1; omega
          have hrd := own_reads2 hoA
          have hs9 := has.size
          obtain ⟨yA, yc⟩ := y
          obtain ⟨yb, yo, rfl, hyb, hyc⟩ := hrd.2 (by omega)
          have hyk := hyc k (.int .i64 E) (by rw [List.getElem?_append_right (by rw [List.length_map, List.length_take]; omega), List.length_map, List.length_take, Nat.min_eq_left (by omega), Nat.sub_self]; rfl)
          have hm0 := hfb.cell 0
          simp only [List.setIfInBounds_toArray, List.set_cons_zero] at hm0
          have HO9 := Lib.hid hoA
          have HM9 := Lib.hid hfb
          have HT9 := Lib.hid ht9
          clear has hoA hfb ht9 hrd hyc hqo
          have hgs : gcdF D (F.take (k + 1)) = (Int.gcd (gcdF D (F.take k)) E : Int) := by
            rw [List.take_add_one, HFK.out]; exact gcdF_snoc E _ D
          obtain ⟨b1, b2, hgw⟩ := gcd_bound (gcdF_dvd (F.take k) D).1 HNZ.out HDI.out HEI.out
          have hkk2 : (k : Int) < ((k + 1 : Nat) : Int) := by omega
          have HGS := Lib.hid (show wrap64 (Int.gcd E (gcdF D (F.take k)) : Int) = gcdF D (F.take (k + 1)) by rw [Int.gcd_comm]; exact hgw.trans hgs.symm)
          clear hgs hgw
          go_wp2_with fail
          refine (gcdref_any _ _ _ b2.1 b2.2 b1.1 b1.2).mono ?_
          rintro e w10 ⟨rfl, q10, rfl⟩
          rw [HGS.out]
          go_wp2
          go_roundw
          case rel => exact ⟨k + 1, _, yc, by omega, rfl, by go_num, HT9.out.drewN _, HM9.out.drewN _, by rw [List.take_add_one, HFK.out, List.map_append]; exact HO9.out⟩
          case measure => simp [intOf]; omega
theorem rfit_is {l : List Star} {T : List Int} {D E : Int} {N : Nat} (hf : fitF l = ((T, D), E)) (hN : T.length = N) (A : Option Addr) (n c : Nat) (hE : (starsF l).2 = 0) (w : World) (hx : StarsAt l A n w) :
    Calls Try.prog 24 #[.slice A n c] w fun e w' => ∃ A c, e = .returned (.tuple #[.agg #[.slice A N c, .int .i64 D], .int .i64 E]) ∧ Below w.heap.size w w' ∧ Reads w' w'.heap.size 1 A N (T.map (.int .i64)) ∧ ∀ b o, A = some ⟨b, o, none⟩ → w.heap.size ≤ b := by
  have h := rfit_any l A n c hE w hx
  refine h.mono fun e w' hp => ?_
  unfold RFitPost at hp
  rw [hf] at hp
  subst hN
  exact hp
end Go.Proofs.Ytdidcpealabaiaa

end
