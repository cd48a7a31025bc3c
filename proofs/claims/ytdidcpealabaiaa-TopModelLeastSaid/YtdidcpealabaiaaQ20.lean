import Derived.Test.YtdidcpealabaiaaQ19

section
/- The walk of the statement on stars and their best model. -/
namespace Go.Proofs.Ytdidcpealabaiaa
open Go Go.RowKit

theorem fitF_alike {S l : List Star} (h : S.map (fun s => (s.xs, s.er)) = l.map (fun s => (s.xs, s.er))) : fitF S = fitF l := by
  have hx : S.map Star.xs = l.map Star.xs := by
    have := congrArg (List.map Prod.fst) h
    rw [List.map_map, List.map_map] at this
    exact this
  have hr : ∀ i, rgt S i = rgt l i := fun i => by
    have e : ∀ x : List Star, rgt x i = ((x.map (fun s => (s.xs, s.er))).map fun p : List Int × Int => p.1.getD i 0 * p.2).sum := fun x => by unfold rgt shp; rw [List.map_map]; rfl
    rw [e, e, h]
  have hR : ∀ N, rgtL S N = rgtL l N := fun N => by
    unfold rgtL
    exact List.map_congr_left fun i _ => by rw [rgtTo_all, rgtTo_all, hr]
  have hT : ∀ N, fitT S N = fitT l N := fun N => by
    unfold fitT
    rw [fitM_congr hx, hR]
  unfold fitF fitG
  rw [termsN_congr hx, fitM_congr hx, hT]
theorem pfitB_is {S l : List Star} (h : S.map (fun s => (s.xs, s.er)) = l.map (fun s => (s.xs, s.er))) {T : List Int} {D E : Int} {N : Nat} (hf : fitF l = ((T, D), E)) (hN : T.length = N) (A : Option Addr) (n c : Nat) (hE : (starsF S).2 = 0) (w : World) (hx : StarsAt S A n w) :
    Calls Try.prog 22 #[.slice A n c] w fun e w' => ∃ A c, e = .returned (.tuple #[.agg #[.slice A N c, .int .i64 D], .int .i64 E]) ∧ Below w.heap.size w w' ∧ Reads w' w'.heap.size 1 A N (T.map (.int .i64)) ∧ ∀ b o, A = some ⟨b, o, none⟩ → w.heap.size ≤ b := by
  have h := pfit_any S A n c hE w hx
  refine h.mono fun e w' hp => ?_
  unfold FitPost at hp
  rw [fitF_alike ‹_›, hf] at hp
  subst hN
  exact hp

end Go.Proofs.Ytdidcpealabaiaa

end

section
/- The plain law of the least squares: no whole model has less squares than the best one. -/
namespace Go.Proofs.Ytdidcpealabaiaa
open Go Go.RowKit

/-- The residual of a star, times D. -/
def resS (T : List Int) (D : Int) (s : Star) : Int := s.er * D - dotS T s
def sqL (T : List Int) (D : Int) (l : List Star) : Int := (l.map fun s => resS T D s * resS T D s).sum
def crL (T : List Int) (D : Int) (k : Nat) (l : List Star) : Int := (l.map fun s => shp s k * resS T D s).sum
def dfL (T b : List Int) (D : Int) (l : List Star) : Int := (l.map fun s => (dotS T s - D * dotS b s) * (dotS T s - D * dotS b s)).sum
theorem sq_star1 (e D p q : Int) : (e * 1 - q) * (e * 1 - q) * D * D = (e * D - p) * (e * D - p) + (p - D * q) * (p - D * q) + 2 * ((e * D - p) * (p - D * q)) := by grind
theorem cr_star1 (T b : List Int) (D : Int) (s : Star) : (T.getD 0 0 - D * b.getD 0 0) * (shp s 0 * resS T D s) + (T.getD 1 0 - D * b.getD 1 0) * (shp s 1 * resS T D s) + (T.getD 2 0 - D * b.getD 2 0) * (shp s 2 * resS T D s) = resS T D s * (dotS T s - D * dotS b s) := by
  unfold dotS
  generalize resS T D s = r
  grind
theorem sq_sum1 (T b : List Int) (D : Int) : ∀ l : List Star, sqL b 1 l * D * D = sqL T D l + dfL T b D l + 2 * ((T.getD 0 0 - D * b.getD 0 0) * crL T D 0 l + (T.getD 1 0 - D * b.getD 1 0) * crL T D 1 l + (T.getD 2 0 - D * b.getD 2 0) * crL T D 2 l)
  | [] => by simp [sqL, dfL, crL]
  | s :: l => by
    have ih := sq_sum1 T b D l
    have e1 : sqL b 1 (s :: l) = resS b 1 s * resS b 1 s + sqL b 1 l := rfl
    have e2 : sqL T D (s :: l) = resS T D s * resS T D s + sqL T D l := rfl
    have e3 : dfL T b D (s :: l) = (dotS T s - D * dotS b s) * (dotS T s - D * dotS b s) + dfL T b D l := rfl
    have e4 : ∀ k, crL T D k (s :: l) = shp s k * resS T D s + crL T D k l := fun _ => rfl
    have h1 := sq_star1 s.er D (dotS T s) (dotS b s)
    have h2 := cr_star1 T b D s
    have r1 : resS b 1 s = s.er * 1 - dotS b s := rfl
    have r2 : s.er * D - dotS T s = resS T D s := rfl
    rw [r2] at h1
    rw [e1, e2, e3, e4, e4, e4, r1]
    grind
theorem df_nonneg (T b : List Int) (D : Int) : ∀ l : List Star, 0 ≤ dfL T b D l
  | [] => by simp [dfL]
  | s :: l => by
    have e3 : dfL T b D (s :: l) = (dotS T s - D * dotS b s) * (dotS T s - D * dotS b s) + dfL T b D l := rfl
    have h1 : 0 ≤ (dotS T s - D * dotS b s) * (dotS T s - D * dotS b s) := by
      rcases Int.le_total 0 (dotS T s - D * dotS b s) with h | h
      · exact Int.mul_nonneg h h
      · exact Int.mul_nonneg_of_nonpos_of_nonpos h h
    have := df_nonneg T b D l
    rw [e3]
    omega
theorem getD_out {t : List Int} {k : Nat} (h : t.length ≤ k) : t.getD k 0 = 0 := by rw [List.getD_eq_getElem?_getD, List.getElem?_eq_none h]; rfl
theorem sq_least {l : List Star} {T b : List Int} {D : Int} (hE : (starsF l).2 = 0) (hf : fitF l = ((T, D), 0)) (hb : b.length = T.length) : sqL T D l ≤ sqL b 1 l * D * D := by
  obtain ⟨hT, hm, hc⟩ := fit_accepted hE hf
  obtain ⟨⟨N0, E0⟩, hS⟩ : ∃ z, starsF l = z := ⟨_, rfl⟩
  have hE0 : E0 = 0 := by rw [hS] at hE; exact hE
  obtain ⟨s1, s2, -, s4⟩ := stars_right hS hE0
  obtain ⟨s0, hs0⟩ := List.exists_mem_of_length_pos (show 0 < l.length by omega)
  obtain ⟨-, n1, n3, -⟩ := star_right (s4 s0 hs0)
  unfold chkErr at hc
  rw [if_neg (by rw [hE]; simp), if_neg (by rw [hm]; simp)] at hc
  unfold fitErr at hc
  rw [if_neg (by rw [hT]; simp)] at hc
  have hz : ∀ k, k < T.length → chkTo l T D k l.length = 0 := by
    split at hc
    · assumption
    · exact absurd hc (by decide)
  have hcr : ∀ k, k < T.length → crL T D k l = 0 := fun k hk => by
    rw [← hz k hk]
    unfold chkTo crL
    rw [List.take_length]
    congr 1
    refine List.map_congr_left fun s hs => ?_
    unfold chkS resS
    rw [show dotTo T s.xs T.length = dotS T s from dotP_all (by rw [(star_right (s4 s hs)).1, hT]) (by omega)]
  have hco : ∀ k, (T.getD k 0 - D * b.getD k 0) * crL T D k l = 0 := fun k => by
    by_cases h : k < T.length
    · rw [hcr k h, Int.mul_zero]
    · rw [getD_out (t := T) (by omega), getD_out (t := b) (by omega)]; simp
  rw [sq_sum1 T b D l, hco 0, hco 1, hco 2]
  have := df_nonneg T b D l
  omega
theorem fit_kind {l : List Star} {T : List Int} {D E : Int} (h : fitF l = ((T, D), E)) : E = 0 ∨ E = 11 ∨ E = 8 := by
  unfold fitF at h
  split at h
  · exact .inr (.inl (Prod.mk.inj h).2.symm)
  · split at h
    · exact .inr (.inr (Prod.mk.inj h).2.symm)
    · exact .inl (Prod.mk.inj h).2.symm
theorem sqL_snoc {T : List Int} {D : Int} {l : List Star} {k : Nat} {s : Star} (h : l[k]? = some s) : sqL T D (l.take (k + 1)) = sqL T D (l.take k) + resS T D s * resS T D s := by
  unfold sqL
  rw [List.take_add_one, h]
  simp
end Go.Proofs.Ytdidcpealabaiaa

end
