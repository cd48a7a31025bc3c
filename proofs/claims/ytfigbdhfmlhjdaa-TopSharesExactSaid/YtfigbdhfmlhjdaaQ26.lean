import Derived.Test.YtfigbdhfmlhjdaaQ25
import Derived.Test.YtfigbdhfmlhjdaaQ14
import Derived.Test.YtfigbdhfmlhjdaaQ12
import Derived.Test.YtfigbdhfmlhjdaaQ6
import Derived.Test.YtfigbdhfmlhjdaaQ5
import Derived.Test.YtfigbdhfmlhjdaaQ11
import Derived.Test.YtfigbdhfmlhjdaaQ18
import Derived.Test.YtfigbdhfmlhjdaaQ8

section
/- Lists of pairs as arguments; arrays of two fractions compared. -/
namespace Go.Proofs.Ytfigbdhfmlhjdaa
open Go Go.RowKit Go.ChangeShapes Go.WideShapes Go.ChangeAt Go.Joins Go.Deep

@[go_sem] theorem held_farr7 : Try.prog.stoodInHeld 36 = false := by kernel_rfl
@[go_sem] theorem guard_farr7 : Try.prog.eqGuardType Try.prog.depth 36 = false := by kernel_rfl
theorem eq_frac97 (a b c d : Int) (w : World) : (Op.equalIn 9999 35 (.agg #[.int .i64 a, .int .i64 b]) (.agg #[.int .i64 c, .int .i64 d])).run Try.prog w = .ok (decide ((a, b) = (c, d))) w := by
  simp [go_sem]
  by_cases h1 : a = c <;> by_cases h2 : b = d <;> simp [h1, h2]
theorem eq_farr7 (a b c d a' b' c' d' : Int) (w : World) : (Op.equalIn 10000 36 (.agg #[.int .i64 a, .int .i64 b, .int .i64 c, .int .i64 d]) (.agg #[.int .i64 a', .int .i64 b', .int .i64 c', .int .i64 d'])).run Try.prog w = .ok (decide ((a, b, c, d) = (a', b', c', d'))) w := by
  have h0 : (sizeOf 35).run Try.prog w = .ok 2 w := by kernel_rfl
  have p0 : ∀ u v x y : Value, (part 35 #[u, v, x, y] 0).run Try.prog w = .ok (.agg #[u, v]) w := fun _ _ _ _ => by kernel_rfl
  have p1 : ∀ u v x y : Value, (part 35 #[u, v, x, y] 2).run Try.prog w = .ok (.agg #[x, y]) w := fun _ _ _ _ => by kernel_rfl
  show (Op.equalIn (9999 + 1) _ _ _).run _ w = _
  rw [Op.equalIn.eq_def]
  simp only [Sem.run_bind, run_underlying Try.underlying36, Result.andThen_ok, h0]
  rw [Std.Legacy.Range.forIn_eq_forIn_range']
  simp [List.range', p0, p1, eq_frac97, Sem.run_bind]
  by_cases h1 : a = a' <;> by_cases h2 : b = b' <;> by_cases h3 : c = c' <;> by_cases h4 : d = d' <;> simp [h1, h2, h3, h4, p0, p1, eq_frac97]
@[go_sem ↓ high] theorem eql_farr7 (a b c d a' b' c' d' : Int) (w : World) : (binOp .eql 36 (.agg #[.int .i64 a, .int .i64 b, .int .i64 c, .int .i64 d]) (.agg #[.int .i64 a', .int .i64 b', .int .i64 c', .int .i64 d'])).run Try.prog w = .ok (.bool (decide ((a, b, c, d) = (a', b', c', d')))) w := by
  rw [run_eql_struct, eq_farr7]; rfl
@[go_sem ↓ high] theorem neq_farr77 (a b c d a' b' c' d' : Int) (w : World) : (binOp .neq 36 (.agg #[.int .i64 a, .int .i64 b, .int .i64 c, .int .i64 d]) (.agg #[.int .i64 a', .int .i64 b', .int .i64 c', .int .i64 d'])).run Try.prog w = .ok (.bool (!decide ((a, b, c, d) = (a', b', c', d')))) w := by
  rw [run_neq_struct, eq_farr7]; rfl

section
variable {H : Type} {enc : TypeId × Value → H} {P : Program} {w : World} {base b0 : Nat} {spare : Nat → Bool} {held : Bool} {r : Reach} {t e tI : TypeId} {v : Value} {d : DataW H} {p : List MemPlace}
/-- A list of arrays of two numbers. -/
theorem arg_arrs7 (ht : P.underlying t = some (.slice e)) (he : P.underlying e = some (.array 2 tI)) (hC : P.cellsOf e = 2) (hcI : P.cellsOf tI = 1) (hI : P.underlying tI = some (.int .i64)) (hv : Value.okWide P w r b0 t v) (h : DataW.Trod enc P w base spare held t v d p) :
    ∃ (A : Option Addr) (n c : Nat) (l : List (Int × Int)), v = .slice A n c ∧ (n ≤ c ∧ c ≤ 9223372036854775807) ∧ l.length = n ∧ (∀ p ∈ l, I64 p.1 ∧ I64 p.2) ∧ Reads w w.heap.size 2 A n (cells2 l) := by
  obtain ⟨fuel, hf⟩ := h
  rcases open_slice ht hf with ⟨h0, -⟩ | ⟨a, len, cap, m, n, D, Pl, hcs, hb, hl, hm, hmm, hx, hi⟩
  · exact ⟨none, 0, 0, [], slice_one ht hv h0, by omega, rfl, by simp, Reads.none_⟩
  have hlm : len ≤ m := by rw [hmm]; split <;> omega
  have hq : ∀ q, q < len * 2 → ∃ z, w.cell? (a.add q) = some (.int .i64 z) ∧ I64 z := by
    intro q hq
    obtain ⟨cs', hc, ht'⟩ := hi (q / 2) (by omega)
    rw [hC] at hc
    obtain ⟨xs, k, -, -, hcl, hxl, hel⟩ := DataW.trod_array he ht'
    rw [hC] at hcl
    obtain ⟨_, hcl', hat⟩ := World.cells?_some hc
    have e0 := hel (q % 2) (by omega)
    rw [hcI, List.getElem?_eq_getElem (by omega)] at e0
    obtain ⟨z, u0, -, wz⟩ := DataW.trod_int hI e0
    have hv' : cs'[q % 2]? = some (.int .i64 z) := by
      have hlt : q % 2 < cs'.length := by omega
      rw [Nat.mul_one, List.drop_eq_getElem_cons hlt, List.take_succ_cons, List.take_zero] at u0
      rw [List.getElem?_eq_getElem hlt, (List.cons.inj u0).1]
    refine ⟨z, ?_, I64.of_wf wz⟩
    have h1 := hat (q % 2) (by omega)
    rw [hv', Go.Deep.add_add] at h1
    rwa [show q / 2 * 2 + q % 2 = q by omega] at h1
  obtain ⟨xs, hxl, hx'⟩ := choose_list _ hq
  obtain ⟨l, l1, l2, l3⟩ := pairs_of_ints len xs hxl
  refine ⟨some a, len, cap, l, slice_one ht hv hcs, ⟨hl, by simpa [maxLen] using hm⟩, l1, fun p hp => ?_, ?_⟩
  · obtain ⟨h1, h2⟩ := l3 p hp
    obtain ⟨i, hi1⟩ := List.getElem?_of_mem h1
    obtain ⟨j, hj1⟩ := List.getElem?_of_mem h2
    exact ⟨(hx' _ _ hi1).2, (hx' _ _ hj1).2⟩
  · rw [l2]
    rcases Nat.eq_zero_or_pos len with rfl | hp
    · obtain rfl : xs = [] := List.length_eq_zero_iff.1 (by simpa using hxl)
      exact Reads.none_
    refine Reads.of_adds (by omega) (by simpa using hxl) ?_ (fun j u hu => ?_)
    · have := block_of_cell (hx' 0 _ (List.getElem?_eq_getElem (by omega))).1
      simpa [Addr.add] using this
    · rw [List.getElem?_map] at hu
      cases hj : xs[j]? with
      | none => rw [hj] at hu; cases hu
      | some z => rw [hj] at hu; cases hu; exact (hx' j z hj).1
end
end Go.Proofs.Ytfigbdhfmlhjdaa

end

section
/- The numbers of the examples with which each statement begins. -/
namespace Go.Proofs.Ytfigbdhfmlhjdaa
open Go.RowKit

def treeL : List Rk := [⟨⟨#[116, 111, 112]⟩, ⟨#[97]⟩, ⟨#[98]⟩, 1, 2⟩, ⟨⟨#[97]⟩, ⟨#[112]⟩, ⟨#[113]⟩, 1, 1⟩, ⟨⟨#[98]⟩, ⟨#[114]⟩, ⟨#[115]⟩, 3, 1⟩]

theorem treeL_open : openErr treeL = 0 := by kernel_rfl
theorem treeL_pts : ptsOf treeL = some [⟨#[112]⟩, ⟨#[113]⟩, ⟨#[114]⟩, ⟨#[115]⟩] := by kernel_rfl
theorem treeL_shares : sharesOf treeL = some [(1, 3), (1, 3), (1, 12), (1, 4)] := by kernel_rfl
end Go.Proofs.Ytfigbdhfmlhjdaa

end

section
/- The examples with which each statement begins are so. -/
namespace Go.Proofs.Ytfigbdhfmlhjdaa
open Go.RowKit

theorem tree_any (w : World) : Calls Try.prog 22 #[] w fun e w' => e = .returned (.slice (some ⟨w.heap.size, 0, none⟩) 3 3) ∧ w' = w.alloc (.cells (rkCells treeL).toArray 65) := by
  go_enter Try.func22, Try.ntmps22
  go_wp2
  go_ret
  exact ⟨rfl, rfl⟩

theorem treeL_fits : ∀ r ∈ treeL, r.Fits := by
  intro r hr
  simp only [treeL, List.mem_cons, List.not_mem_nil, or_false] at hr
  rcases hr with rfl | rfl | rfl <;> exact ⟨by decide, by decide, by decide⟩

theorem awake_shares (A : Option Addr) (N : Nat) (w : World) (hx : Reads w N 5 A 3 (rkCells treeL)) (hN : N ≤ w.heap.size) :
    Calls Try.prog 13 #[.slice A 3 3] w fun e w' => ∃ B c, e = .returned (.tuple #[.slice B 4 c, .int .i64 0]) ∧ Below w.heap.size w w' ∧ Reads w' w'.heap.size 2 B 4 (cells2 [(1, 3), (1, 3), (1, 12), (1, 4)]) :=
  (Shares_any treeL treeL_fits A 3 3 N w (by decide) hx hN (fun _ => ⟨_, treeL_pts, by decide⟩)).mono fun e w' ⟨hb, _, _, h⟩ => by
    obtain ⟨v, he, ho⟩ := h treeL_open _ treeL_shares
    obtain ⟨B, c, rfl, hr⟩ := own_reads ho
    exact ⟨B, c, he, hb, hr⟩

end Go.Proofs.Ytfigbdhfmlhjdaa

end

section
/- The walk of the statement on trees. -/
namespace Go.Proofs.Ytfigbdhfmlhjdaa
open Go.RowKit



theorem rchecktree_is (l : List Rk) (hf : ∀ r ∈ l, r.Fits) (A : Option Addr) (n c N : Nat) (E : Int) (hE : openErr l = E) (w : World) (hx : Reads w N 5 A n (rkCells l)) (hN : N ≤ w.heap.size) (hn : n ≤ 100000) (hnc : n ≤ c) (hcm : c ≤ 9223372036854775807) :
    Calls Try.prog 9 #[.slice A n c] w fun e w' => e = .returned (.int .i64 E) ∧ Below w.heap.size w w' := hE ▸ rchecktree_any l hf A n c N w hx hN hn hnc hcm



end Go.Proofs.Ytfigbdhfmlhjdaa

end

section
/- The walk of the statement on pivots. -/
namespace Go.Proofs.Ytfigbdhfmlhjdaa
open Go Go.RowKit Go.Maps

theorem pvCells_get (l : List Rk) (g0 g1 : ByteArray → Int) : ∀ (rs : List Rk) (k : Nat) (r : Rk), rs[k]? = some r → (pvCells l g0 g1 rs)[k * 4]? = some (.int .i64 (plV l g0 r.name).1) ∧ (pvCells l g0 g1 rs)[k * 4 + 1]? = some (.int .i64 (plV l g0 r.name).2) ∧ (pvCells l g0 g1 rs)[k * 4 + 2]? = some (.int .i64 (plV l g1 r.name).1) ∧ (pvCells l g0 g1 rs)[k * 4 + 3]? = some (.int .i64 (plV l g1 r.name).2)
  | [], k, r, h => by simp at h
  | q :: rs, 0, r, h => by
    obtain rfl : q = r := by simpa using h
    unfold pvCells
    rw [List.flatMap_cons]
    simp
  | q :: rs, k + 1, r, h => by
    have ih := pvCells_get l g0 g1 rs k r (by simpa using h)
    have e : pvCells l g0 g1 (q :: rs) = .int .i64 (plV l g0 q.name).1 :: .int .i64 (plV l g0 q.name).2 :: .int .i64 (plV l g1 q.name).1 :: .int .i64 (plV l g1 q.name).2 :: pvCells l g0 g1 rs := by
      unfold pvCells
      rw [List.flatMap_cons]
      rfl
    rw [e]
    have a0 : (k + 1) * 4 = k * 4 + 1 + 1 + 1 + 1 := by omega
    rw [a0]
    simpa using ih
theorem pv_cells {w : World} {N n : Nat} {A : Option Addr} {l : List Rk} {g0 g1 : ByteArray → Int} (hl : l.length = n) (h : Reads w N 4 A n (pvCells l g0 g1 l)) {k : Nat} (hk : k < n) : ∃ b o r, A = some ⟨b, o, none⟩ ∧ b < N ∧ l[k]? = some r ∧ w.cell? ⟨b, o + k * 4, none⟩ = some (.int .i64 (plV l g0 r.name).1) ∧ w.cell? ⟨b, o + k * 4 + 1, none⟩ = some (.int .i64 (plV l g0 r.name).2) ∧ w.cell? ⟨b, o + k * 4 + 2, none⟩ = some (.int .i64 (plV l g1 r.name).1) ∧ w.cell? ⟨b, o + k * 4 + 3, none⟩ = some (.int .i64 (plV l g1 r.name).2) := by
  obtain ⟨b, o, e, hb, hc⟩ := h.2 (by omega)
  have hr := List.getElem?_eq_getElem (show k < l.length by omega)
  obtain ⟨c0, c1, c2, c3⟩ := pvCells_get l g0 g1 l k _ hr
  exact ⟨b, o, _, e, hb, hr, hc _ _ c0, hc _ _ c1, hc _ _ c2, hc _ _ c3⟩
theorem few_below7 {l : List Rk} (h : fewB l = true) (h0 : openErr l = 0) (s : ByteArray) : (below_ l s).length ≤ 1000000 := by
  have h1 := (open_zero h0).2.1
  have h2 := (fewB_len h).1
  have hl : l.length ≤ 8 := by omega
  have := below_len h0 s
  have h3 : 2 ^ l.length ≤ 2 ^ 8 := Nat.pow_le_pow_right (by omega) hl
  omega
end Go.Proofs.Ytfigbdhfmlhjdaa

end

section
/- The walk of the statement on the check of shares. -/
namespace Go.Proofs.Ytfigbdhfmlhjdaa
open Go.RowKit




end Go.Proofs.Ytfigbdhfmlhjdaa

end

section
/- The walk of the statement on shares. -/
namespace Go.Proofs.Ytfigbdhfmlhjdaa
open Go.RowKit

/-- The shares of a tree are above 0, and valid fractions. -/
theorem sh_ok (l : List Rk) (harms : ArmsOK l) : ∀ (f : Nat) (s : ByteArray) (n d : Int) (ys : List (Int × Int)), Part n → Part d → fracErr n d = 0 → sh l f s n d = some ys → ∀ p ∈ ys, Part p.1 ∧ Part p.2 ∧ fracErr p.1 p.2 = 0 := by
  intro f
  induction f with
  | zero =>
    intro s n d ys hn hd he hs p hp
    unfold sh at hs
    obtain rfl := Option.some.inj hs
    simp at hp
    subst hp
    exact ⟨hn, hd, he⟩
  | succ f ih =>
    intro s n d ys hn hd he hs p hp
    unfold sh at hs
    cases hi : idxOf l s with
    | none =>
      rw [hi] at hs
      obtain rfl := Option.some.inj hs
      simp at hp
      subst hp
      exact ⟨hn, hd, he⟩
    | some i =>
      rw [hi] at hs
      simp only at hs
      cases hr : l[i]? with
      | none => rw [hr] at hs; cases hs
      | some r =>
        rw [hr] at hs
        simp only at hs
        obtain ⟨a1, a2, a3, a4⟩ := harms r (List.mem_of_getElem? hr)
        split at hs
        · rename_i hsm
          rw [Bool.and_eq_true] at hsm
          have m1 : 1 ≤ n * r.ar := Int.mul_pos (show (0 : Int) < n from hn.1) (show (0 : Int) < r.ar by omega)
          have m2 : 1 ≤ n * r.al := Int.mul_pos (show (0 : Int) < n from hn.1) (show (0 : Int) < r.al by omega)
          have m3 : 1 ≤ d * (r.al + r.ar) := Int.mul_pos (show (0 : Int) < d from hd.1) (show (0 : Int) < r.al + r.ar by omega)
          have P1 := red_part m1 m3 hsm.1
          have P2 := red_part m2 m3 hsm.2
          have E1 := (small_err m3).1 hsm.1
          have E2 := (small_err m3).1 hsm.2
          unfold join2 at hs
          split at hs
          · rename_i x y h1 h2
            obtain rfl := Option.some.inj hs
            rcases List.mem_append.1 hp with hp | hp
            · exact ih _ _ _ _ P1.1 P1.2 E1 h1 p hp
            · exact ih _ _ _ _ P2.1 P2.2 E2 h2 p hp
          · cases hs
        · cases hs

theorem shares_none (l : List Rk) (hfits : ∀ r ∈ l, r.Fits) (A : Option Addr) (n c N : Nat) (ps : List ByteArray) (w : World) (hn : n ≤ 100000) (hx : Reads w N 5 A n (rkCells l)) (hN : N ≤ w.heap.size) (hE : openErr l = 0) (hp : ptsOf l = some ps) (hps : ps.length ≤ 1000000) (hs : sharesOf l = none) :
    Calls Try.prog 13 #[.slice A n c] w fun e w' => e = .returned (.tuple #[.slice none 0 0, .int .i64 8]) ∧ Below w.heap.size w w' :=
  (Shares_any l hfits A n c N w hn hx hN (fun _ => ⟨ps, hp, hps⟩)).mono fun e w' ⟨hb, _, h2, _⟩ => ⟨h2 hE hs, hb⟩

theorem shares_some (l : List Rk) (hfits : ∀ r ∈ l, r.Fits) (A : Option Addr) (n c N : Nat) (ps : List ByteArray) (ys : List (Int × Int)) (m : Nat) (hm : ys.length = m) (w : World) (hn : n ≤ 100000) (hx : Reads w N 5 A n (rkCells l)) (hN : N ≤ w.heap.size) (hE : openErr l = 0) (hp : ptsOf l = some ps) (hps : ps.length ≤ 1000000) (hs : sharesOf l = some ys) :
    Calls Try.prog 13 #[.slice A n c] w fun e w' => Below w.heap.size w w' ∧ ∃ A c, e = .returned (.tuple #[.slice A m c, .int .i64 0]) ∧ Reads w' w'.heap.size 2 A m (cells2 ys) :=
  (Shares_any l hfits A n c N w hn hx hN (fun _ => ⟨ps, hp, hps⟩)).mono fun e w' ⟨hb, _, _, h3⟩ => by
    obtain ⟨v, he, ho⟩ := h3 hE ys hs
    obtain ⟨A', c', rfl, hr⟩ := own_reads ho
    subst hm
    exact ⟨hb, A', c', he, hr⟩

theorem rshares_none (l : List Rk) (hfits : ∀ r ∈ l, r.Fits) (A : Option Addr) (n c N : Nat) (w : World) (hx : Reads w N 5 A n (rkCells l)) (hN : N ≤ w.heap.size) (hn : n ≤ 100000) (h0 : openErr l = 0) (ps : List ByteArray) (hp : ptsOf l = some ps) (hps : ps.length ≤ 1000000) (hs : sharesOf l = none) :
    Calls Try.prog 14 #[.slice A n c] w fun e w' => Below w.heap.size w w' ∧ ∃ A' c', e = .returned (.tuple #[.slice A' ps.length c', .bool false]) :=
  (rshares_any l hfits A n c N w hx hN hn h0 ps hp hps).mono fun e w' ⟨hb, A', c', he, _⟩ => ⟨hb, A', c', by rw [he, hs]; rfl⟩

theorem rshares_some (l : List Rk) (hfits : ∀ r ∈ l, r.Fits) (A : Option Addr) (n c N : Nat) (m : Nat) (ys : List (Int × Int)) (w : World) (hx : Reads w N 5 A n (rkCells l)) (hN : N ≤ w.heap.size) (hn : n ≤ 100000) (h0 : openErr l = 0) (ps : List ByteArray) (hp : ptsOf l = some ps) (hps : ps.length ≤ 1000000) (hs : sharesOf l = some ys) (hm : ps.length = m) :
    Calls Try.prog 14 #[.slice A n c] w fun e w' => Below w.heap.size w w' ∧ ∃ A' c', e = .returned (.tuple #[.slice A' m c', .bool true]) ∧ Reads w' w'.heap.size 2 A' m (cells2 ys) :=
  (rshares_any l hfits A n c N w hx hN hn h0 ps hp hps).mono fun e w' ⟨hb, A', c', he, hr⟩ => by
    subst hm
    exact ⟨hb, A', c', by rw [he, hs]; rfl, hr ys hs⟩


end Go.Proofs.Ytfigbdhfmlhjdaa

end

section
/- Two lists joined in memory of their own; the example with which the statements of the top begin. -/
namespace Go.Proofs.Ytfigbdhfmlhjdaa
open Go.RowKit

set_option maxRecDepth 100000 in
theorem topborne_any (w : World) : Calls Try.prog 11 #[] w fun e w' => e = .returned (.bool true) ∧ Below w.heap.size w w' := by
  go_enter Try.func11, Try.ntmps11
  go_wp2_with (first | (go_at_call 22; refine (tree_any _).mono ?_; rintro e w1 ⟨rfl, rfl⟩))
  refine (awake_shares _ _ _ (Blk.reads (n := 3) (size := 5) (Blk.at_ w rfl _ _) (by kernel_rfl)) (Nat.le_refl _)).mono ?_
  rintro e w1 ⟨B, c, rfl, hb1, hr1⟩
  have hb1' : Below w.heap.size w w1 := ((Below.refl _ _).alloc (Nat.le_refl _) _).trans (hb1.mono (by simp))
  have HB1 := Lib.hid hb1'
  obtain ⟨b, o, p, rfl, hlt, hp, c0, c1⟩ := hr1.pair (i := 2) (by omega)
  obtain rfl : p = (1, 12) := by simpa using hp.symm
  simp only at c0 c1
  clear hb1 hb1' hr1 hp
  go_wp2
  go_ret
  exact ⟨rfl, HB1.out⟩

end Go.Proofs.Ytfigbdhfmlhjdaa

end

section
/- The contracts of Ratio and MeetAgain, of the program and of the reference, and of the reference's Returns. -/
namespace Go.Proofs.Ytfigbdhfmlhjdaa
open Go.RowKit

def lastF (L : List (Int × Int)) (s : Int × Int) : Int × Int := L.foldl (fun _ f => f) s
/-- What Ratio answers. -/
def ratioF (l : List (Int × Int)) : (Int × Int) × Int :=
  if trainErr l ≠ 0 then ((0, 0), trainErr l) else if (begF (1, 1) l).2 = false then ((0, 0), 8) else (lastF (begF (1, 1) l).1 (0, 0), 0)

/-- What the function value of Ratio finds: its variable, and all below it as it was. -/
structure InvL (w0 : World) (ob : Nat) (s : Int × Int) (w : World) : Prop where
  low : Below w0.heap.size w0 w
  out : Blk w ob 35 #[.int .i64 s.1, .int .i64 s.2]






end Go.Proofs.Ytfigbdhfmlhjdaa

end

section
/- The contracts of MeetAgain, of the program and of the reference, and of the reference's Returns. -/
namespace Go.Proofs.Ytfigbdhfmlhjdaa
open Go.RowKit

def meetF (d v : Int) : Int := v / (Int.gcd d v : Int)
theorem gcdref_ret (a b : Int) (w : World) (h1 : 1 ≤ a) (h2 : a ≤ 9223372036854775807) (h3 : 1 ≤ b) (h4 : b ≤ 9223372036854775807) :
    Calls Try.prog 20 #[.int .i64 a, .int .i64 b] w fun e w' => e = .returned (.int .i64 (Int.gcd a b : Int)) ∧ ∃ n, w' = w.drewN n := by
  have hg := gcd_small a b (by omega) h4
  exact (gcdref_any a b w (by omega) h2 (by omega) h4).mono fun e w' ⟨he, hw⟩ => ⟨by rw [he]; exact ret_int hg, hw⟩

/-- The turns by the reference. -/
def retF : Int → List (Int × Int) → Int × Int
  | n, [] => (n, 0)
  | n, f :: l => if 1000000000 < n / (Int.gcd n f.2 : Int) * f.2 then (0, 8) else retF (n / (Int.gcd n f.2 : Int) * f.2) l
end Go.Proofs.Ytfigbdhfmlhjdaa

end
