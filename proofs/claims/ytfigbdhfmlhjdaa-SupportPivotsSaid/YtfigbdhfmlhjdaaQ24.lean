import Derived.Test.YtfigbdhfmlhjdaaQ23
import Derived.Test.YtfigbdhfmlhjdaaQ14
import Derived.Test.YtfigbdhfmlhjdaaQ13
import Derived.Test.YtfigbdhfmlhjdaaQ12
import Derived.Test.YtfigbdhfmlhjdaaQ6
import Derived.Test.YtfigbdhfmlhjdaaQ5
import Derived.Test.YtfigbdhfmlhjdaaQ11

section
/- Lists of pairs as arguments; arrays of two fractions compared. -/
namespace Go.Proofs.Ytfigbdhfmlhjdaa
open Go Go.RowKit Go.ChangeShapes Go.WideShapes Go.ChangeAt Go.Joins Go.Deep

@[go_sem] theorem held_farr7 : Try.prog.stoodInHeld 36 = false := by kernel_rfl
@[go_sem] theorem guard_farr7 : Try.prog.eqGuardType Try.prog.depth 36 = false := by kernel_rfl
theorem eq_frac97 (a b c d : Int) (w : World) : (Op.equalIn 9999 35 (.agg #[.int .i64 a, .int .i64 b]) (.agg #[.int .i64 c, .int .i64 d])).run Try.prog w = .ok (decide ((a, b) = (c, d))) w := by
  simp [go_sem]
  by_cases h1 : a = c <;> by_cases h2 : b = d <;> simp [h1, h2]
theorem eq_farr7 (a b c d a' b' c' d' : Int) (w : World) : (Op.equalIn 10000 36 (.agg #[.int .i64 a, .int .i64 b, .int .i64 c, .int .i64 d]) (.agg #[.int .i64 a', .int .i64 b', .int .i64 c', .int .i64 d'])).run Try.prog w = .ok (decide ((a, b, c, d) = (a', b', c', d'))) w := by
  have h0 : (sizeOf 35).run Try.prog w = .ok 2 w := by kernel_rfl
  have p0 : ∀ u v x y : Value, (part 35 #[u, v, x, y] 0).run Try.prog w = .ok (.agg #[u, v]) w := fun _ _ _ _ => by kernel_rfl
  have p1 : ∀ u v x y : Value, (part 35 #[u, v, x, y] 2).run Try.prog w = .ok (.agg #[x, y]) w := fun _ _ _ _ => by kernel_rfl
  show (Op.equalIn (9999 + 1) _ _ _).run _ w = _
  rw [Op.equalIn.eq_def]
  simp only [Sem.run_bind, run_underlying Try.underlying36, Result.andThen_ok, h0]
  rw [Std.Legacy.Range.forIn_eq_forIn_range']
  simp [List.range', p0, p1, eq_frac97, Sem.run_bind]
  by_cases h1 : a = a' <;> by_cases h2 : b = b' <;> by_cases h3 : c = c' <;> by_cases h4 : d = d' <;> simp [h1, h2, h3, h4, p0, p1, eq_frac97]
@[go_sem ↓ high] theorem eql_farr7 (a b c d a' b' c' d' : Int) (w : World) : (binOp .eql 36 (.agg #[.int .i64 a, .int .i64 b, .int .i64 c, .int .i64 d]) (.agg #[.int .i64 a', .int .i64 b', .int .i64 c', .int .i64 d'])).run Try.prog w = .ok (.bool (decide ((a, b, c, d) = (a', b', c', d')))) w := by
  rw [run_eql_struct, eq_farr7]; rfl
@[go_sem ↓ high] theorem neq_farr77 (a b c d a' b' c' d' : Int) (w : World) : (binOp .neq 36 (.agg #[.int .i64 a, .int .i64 b, .int .i64 c, .int .i64 d]) (.agg #[.int .i64 a', .int .i64 b', .int .i64 c', .int .i64 d'])).run Try.prog w = .ok (.bool (!decide ((a, b, c, d) = (a', b', c', d')))) w := by
  rw [run_neq_struct, eq_farr7]; rfl

section
variable {H : Type} {enc : TypeId × Value → H} {P : Program} {w : World} {base b0 : Nat} {spare : Nat → Bool} {held : Bool} {r : Reach} {t e tI : TypeId} {v : Value} {d : DataW H} {p : List MemPlace}
/-- A list of arrays of two numbers. -/
theorem arg_arrs7 (ht : P.underlying t = some (.slice e)) (he : P.underlying e = some (.array 2 tI)) (hC : P.cellsOf e = 2) (hcI : P.cellsOf tI = 1) (hI : P.underlying tI = some (.int .i64)) (hv : Value.okWide P w r b0 t v) (h : DataW.Trod enc P w base spare held t v d p) :
    ∃ (A : Option Addr) (n c : Nat) (l : List (Int × Int)), v = .slice A n c ∧ (n ≤ c ∧ c ≤ 9223372036854775807) ∧ l.length = n ∧ (∀ p ∈ l, I64 p.1 ∧ I64 p.2) ∧ Reads w w.heap.size 2 A n (cells2 l) := by
  obtain ⟨fuel, hf⟩ := h
  rcases open_slice ht hf with ⟨h0, -⟩ | ⟨a, len, cap, m, n, D, Pl, hcs, hb, hl, hm, hmm, hx, hi⟩
  · exact ⟨none, 0, 0, [], slice_one ht hv h0, by omega, rfl, by simp, Reads.none_⟩
  have hlm : len ≤ m := by rw [hmm]; split <;> omega
  have hq : ∀ q, q < len * 2 → ∃ z, w.cell? (a.add q) = some (.int .i64 z) ∧ I64 z := by
    intro q hq
    obtain ⟨cs', hc, ht'⟩ := hi (q / 2) (by omega)
    rw [hC] at hc
    obtain ⟨xs, k, -, -, hcl, hxl, hel⟩ := DataW.trod_array he ht'
    rw [hC] at hcl
    obtain ⟨_, hcl', hat⟩ := World.cells?_some hc
    have e0 := hel (q % 2) (by omega)
    rw [hcI, List.getElem?_eq_getElem (by omega)] at e0
    obtain ⟨z, u0, -, wz⟩ := DataW.trod_int hI e0
    have hv' : cs'[q % 2]? = some (.int .i64 z) := by
      have hlt : q % 2 < cs'.length := by omega
      rw [Nat.mul_one, List.drop_eq_getElem_cons hlt, List.take_succ_cons, List.take_zero] at u0
      rw [List.getElem?_eq_getElem hlt, (List.cons.inj u0).1]
    refine ⟨z, ?_, I64.of_wf wz⟩
    have h1 := hat (q % 2) (by omega)
    rw [hv', Go.Deep.add_add] at h1
    rwa [show q / 2 * 2 + q % 2 = q by omega] at h1
  obtain ⟨xs, hxl, hx'⟩ := choose_list _ hq
  obtain ⟨l, l1, l2, l3⟩ := pairs_of_ints len xs hxl
  refine ⟨some a, len, cap, l, slice_one ht hv hcs, ⟨hl, by simpa [maxLen] using hm⟩, l1, fun p hp => ?_, ?_⟩
  · obtain ⟨h1, h2⟩ := l3 p hp
    obtain ⟨i, hi1⟩ := List.getElem?_of_mem h1
    obtain ⟨j, hj1⟩ := List.getElem?_of_mem h2
    exact ⟨(hx' _ _ hi1).2, (hx' _ _ hj1).2⟩
  · rw [l2]
    rcases Nat.eq_zero_or_pos len with rfl | hp
    · obtain rfl : xs = [] := List.length_eq_zero_iff.1 (by simpa using hxl)
      exact Reads.none_
    refine Reads.of_adds (by omega) (by simpa using hxl) ?_ (fun j u hu => ?_)
    · have := block_of_cell (hx' 0 _ (List.getElem?_eq_getElem (by omega))).1
      simpa [Addr.add] using this
    · rw [List.getElem?_map] at hu
      cases hj : xs[j]? with
      | none => rw [hj] at hu; cases hu
      | some z => rw [hj] at hu; cases hu; exact (hx' j z hj).1
end
end Go.Proofs.Ytfigbdhfmlhjdaa

end

section
/- The numbers of the examples with which each statement begins. -/
namespace Go.Proofs.Ytfigbdhfmlhjdaa
open Go.RowKit

def treeL : List Rk := [⟨⟨#[116, 111, 112]⟩, ⟨#[97]⟩, ⟨#[98]⟩, 1, 2⟩, ⟨⟨#[97]⟩, ⟨#[112]⟩, ⟨#[113]⟩, 1, 1⟩, ⟨⟨#[98]⟩, ⟨#[114]⟩, ⟨#[115]⟩, 3, 1⟩]

theorem treeL_open : openErr treeL = 0 := by kernel_rfl
theorem treeL_pts : ptsOf treeL = some [⟨#[112]⟩, ⟨#[113]⟩, ⟨#[114]⟩, ⟨#[115]⟩] := by kernel_rfl
theorem treeL_shares : sharesOf treeL = some [(1, 3), (1, 3), (1, 12), (1, 4)] := by kernel_rfl
theorem awake_returns : returnsF [(10, 40), (20, 30)] = (12, 0) := by kernel_rfl
theorem aw_row0 : rowF 355 113 1 100 (1 + ((0 : Nat) : Int)) (1, 1) = (1, 1) := by kernel_rfl
theorem aw_row1 : rowF 355 113 1 100 (1 + ((1 : Nat) : Int)) (1, 1) = (2, 1) := by kernel_rfl
theorem aw_row2 : rowF 355 113 1 100 (1 + ((2 : Nat) : Int)) (2, 1) = (3, 1) := by kernel_rfl
theorem aw_row3 : rowF 355 113 1 100 (1 + ((3 : Nat) : Int)) (3, 1) = (3, 1) := by kernel_rfl
theorem aw_row4 : rowF 355 113 1 100 (1 + ((4 : Nat) : Int)) (3, 1) = (3, 1) := by kernel_rfl
theorem aw_row5 : rowF 355 113 1 100 (1 + ((5 : Nat) : Int)) (3, 1) = (3, 1) := by kernel_rfl
theorem aw_row6 : rowF 355 113 1 100 (1 + ((6 : Nat) : Int)) (3, 1) = (3, 1) := by kernel_rfl
theorem aw_row7 : rowF 355 113 1 100 (1 + ((7 : Nat) : Int)) (3, 1) = (3, 1) := by kernel_rfl
theorem aw_row8 : rowF 355 113 1 100 (1 + ((8 : Nat) : Int)) (3, 1) = (3, 1) := by kernel_rfl
theorem aw_row9 : rowF 355 113 1 100 (1 + ((9 : Nat) : Int)) (3, 1) = (3, 1) := by kernel_rfl
theorem aw_row10 : rowF 355 113 1 100 (1 + ((10 : Nat) : Int)) (3, 1) = (3, 1) := by kernel_rfl
theorem aw_row11 : rowF 355 113 1 100 (1 + ((11 : Nat) : Int)) (3, 1) = (3, 1) := by kernel_rfl
theorem aw_row12 : rowF 355 113 1 100 (1 + ((12 : Nat) : Int)) (3, 1) = (13, 4) := by kernel_rfl
theorem aw_row13 : rowF 355 113 1 100 (1 + ((13 : Nat) : Int)) (13, 4) = (13, 4) := by kernel_rfl
theorem aw_row14 : rowF 355 113 1 100 (1 + ((14 : Nat) : Int)) (13, 4) = (13, 4) := by kernel_rfl
theorem aw_row15 : rowF 355 113 1 100 (1 + ((15 : Nat) : Int)) (13, 4) = (16, 5) := by kernel_rfl
theorem aw_row16 : rowF 355 113 1 100 (1 + ((16 : Nat) : Int)) (16, 5) = (16, 5) := by kernel_rfl
theorem aw_row17 : rowF 355 113 1 100 (1 + ((17 : Nat) : Int)) (16, 5) = (16, 5) := by kernel_rfl
theorem aw_row18 : rowF 355 113 1 100 (1 + ((18 : Nat) : Int)) (16, 5) = (19, 6) := by kernel_rfl
theorem aw_row19 : rowF 355 113 1 100 (1 + ((19 : Nat) : Int)) (19, 6) = (19, 6) := by kernel_rfl
theorem aw_row20 : rowF 355 113 1 100 (1 + ((20 : Nat) : Int)) (19, 6) = (19, 6) := by kernel_rfl
theorem aw_row21 : rowF 355 113 1 100 (1 + ((21 : Nat) : Int)) (19, 6) = (22, 7) := by kernel_rfl
theorem aw_row22 : rowF 355 113 1 100 (1 + ((22 : Nat) : Int)) (22, 7) = (22, 7) := by kernel_rfl
theorem aw_row23 : rowF 355 113 1 100 (1 + ((23 : Nat) : Int)) (22, 7) = (22, 7) := by kernel_rfl
theorem aw_row24 : rowF 355 113 1 100 (1 + ((24 : Nat) : Int)) (22, 7) = (22, 7) := by kernel_rfl
theorem aw_row25 : rowF 355 113 1 100 (1 + ((25 : Nat) : Int)) (22, 7) = (22, 7) := by kernel_rfl
theorem aw_row26 : rowF 355 113 1 100 (1 + ((26 : Nat) : Int)) (22, 7) = (22, 7) := by kernel_rfl
theorem aw_row27 : rowF 355 113 1 100 (1 + ((27 : Nat) : Int)) (22, 7) = (22, 7) := by kernel_rfl
theorem aw_row28 : rowF 355 113 1 100 (1 + ((28 : Nat) : Int)) (22, 7) = (22, 7) := by kernel_rfl
theorem aw_row29 : rowF 355 113 1 100 (1 + ((29 : Nat) : Int)) (22, 7) = (22, 7) := by kernel_rfl
theorem aw_row30 : rowF 355 113 1 100 (1 + ((30 : Nat) : Int)) (22, 7) = (22, 7) := by kernel_rfl
theorem aw_row31 : rowF 355 113 1 100 (1 + ((31 : Nat) : Int)) (22, 7) = (22, 7) := by kernel_rfl
theorem aw_row32 : rowF 355 113 1 100 (1 + ((32 : Nat) : Int)) (22, 7) = (22, 7) := by kernel_rfl
theorem aw_row33 : rowF 355 113 1 100 (1 + ((33 : Nat) : Int)) (22, 7) = (22, 7) := by kernel_rfl
theorem aw_row34 : rowF 355 113 1 100 (1 + ((34 : Nat) : Int)) (22, 7) = (22, 7) := by kernel_rfl
theorem aw_row35 : rowF 355 113 1 100 (1 + ((35 : Nat) : Int)) (22, 7) = (22, 7) := by kernel_rfl
theorem aw_row36 : rowF 355 113 1 100 (1 + ((36 : Nat) : Int)) (22, 7) = (22, 7) := by kernel_rfl
theorem aw_row37 : rowF 355 113 1 100 (1 + ((37 : Nat) : Int)) (22, 7) = (22, 7) := by kernel_rfl
theorem aw_row38 : rowF 355 113 1 100 (1 + ((38 : Nat) : Int)) (22, 7) = (22, 7) := by kernel_rfl
theorem aw_row39 : rowF 355 113 1 100 (1 + ((39 : Nat) : Int)) (22, 7) = (22, 7) := by kernel_rfl
theorem aw_row40 : rowF 355 113 1 100 (1 + ((40 : Nat) : Int)) (22, 7) = (22, 7) := by kernel_rfl
theorem aw_row41 : rowF 355 113 1 100 (1 + ((41 : Nat) : Int)) (22, 7) = (22, 7) := by kernel_rfl
theorem aw_row42 : rowF 355 113 1 100 (1 + ((42 : Nat) : Int)) (22, 7) = (22, 7) := by kernel_rfl
theorem aw_row43 : rowF 355 113 1 100 (1 + ((43 : Nat) : Int)) (22, 7) = (22, 7) := by kernel_rfl
theorem aw_row44 : rowF 355 113 1 100 (1 + ((44 : Nat) : Int)) (22, 7) = (22, 7) := by kernel_rfl
theorem aw_row45 : rowF 355 113 1 100 (1 + ((45 : Nat) : Int)) (22, 7) = (22, 7) := by kernel_rfl
theorem aw_row46 : rowF 355 113 1 100 (1 + ((46 : Nat) : Int)) (22, 7) = (22, 7) := by kernel_rfl
theorem aw_row47 : rowF 355 113 1 100 (1 + ((47 : Nat) : Int)) (22, 7) = (22, 7) := by kernel_rfl
theorem aw_row48 : rowF 355 113 1 100 (1 + ((48 : Nat) : Int)) (22, 7) = (22, 7) := by kernel_rfl
theorem aw_row49 : rowF 355 113 1 100 (1 + ((49 : Nat) : Int)) (22, 7) = (22, 7) := by kernel_rfl
theorem aw_row50 : rowF 355 113 1 100 (1 + ((50 : Nat) : Int)) (22, 7) = (22, 7) := by kernel_rfl
theorem aw_row51 : rowF 355 113 1 100 (1 + ((51 : Nat) : Int)) (22, 7) = (22, 7) := by kernel_rfl
theorem aw_row52 : rowF 355 113 1 100 (1 + ((52 : Nat) : Int)) (22, 7) = (22, 7) := by kernel_rfl
theorem aw_row53 : rowF 355 113 1 100 (1 + ((53 : Nat) : Int)) (22, 7) = (22, 7) := by kernel_rfl
theorem aw_row54 : rowF 355 113 1 100 (1 + ((54 : Nat) : Int)) (22, 7) = (22, 7) := by kernel_rfl
theorem aw_row55 : rowF 355 113 1 100 (1 + ((55 : Nat) : Int)) (22, 7) = (22, 7) := by kernel_rfl
theorem aw_row56 : rowF 355 113 1 100 (1 + ((56 : Nat) : Int)) (22, 7) = (22, 7) := by kernel_rfl
theorem aw_row57 : rowF 355 113 1 100 (1 + ((57 : Nat) : Int)) (22, 7) = (22, 7) := by kernel_rfl
theorem aw_row58 : rowF 355 113 1 100 (1 + ((58 : Nat) : Int)) (22, 7) = (22, 7) := by kernel_rfl
theorem aw_row59 : rowF 355 113 1 100 (1 + ((59 : Nat) : Int)) (22, 7) = (22, 7) := by kernel_rfl
theorem aw_row60 : rowF 355 113 1 100 (1 + ((60 : Nat) : Int)) (22, 7) = (22, 7) := by kernel_rfl
theorem aw_row61 : rowF 355 113 1 100 (1 + ((61 : Nat) : Int)) (22, 7) = (22, 7) := by kernel_rfl
theorem aw_row62 : rowF 355 113 1 100 (1 + ((62 : Nat) : Int)) (22, 7) = (22, 7) := by kernel_rfl
theorem aw_row63 : rowF 355 113 1 100 (1 + ((63 : Nat) : Int)) (22, 7) = (22, 7) := by kernel_rfl
theorem aw_row64 : rowF 355 113 1 100 (1 + ((64 : Nat) : Int)) (22, 7) = (22, 7) := by kernel_rfl
theorem aw_row65 : rowF 355 113 1 100 (1 + ((65 : Nat) : Int)) (22, 7) = (22, 7) := by kernel_rfl
theorem aw_row66 : rowF 355 113 1 100 (1 + ((66 : Nat) : Int)) (22, 7) = (22, 7) := by kernel_rfl
theorem aw_row67 : rowF 355 113 1 100 (1 + ((67 : Nat) : Int)) (22, 7) = (22, 7) := by kernel_rfl
theorem aw_row68 : rowF 355 113 1 100 (1 + ((68 : Nat) : Int)) (22, 7) = (22, 7) := by kernel_rfl
theorem aw_row69 : rowF 355 113 1 100 (1 + ((69 : Nat) : Int)) (22, 7) = (22, 7) := by kernel_rfl
theorem aw_row70 : rowF 355 113 1 100 (1 + ((70 : Nat) : Int)) (22, 7) = (22, 7) := by kernel_rfl
theorem aw_row71 : rowF 355 113 1 100 (1 + ((71 : Nat) : Int)) (22, 7) = (22, 7) := by kernel_rfl
theorem aw_row72 : rowF 355 113 1 100 (1 + ((72 : Nat) : Int)) (22, 7) = (22, 7) := by kernel_rfl
theorem aw_row73 : rowF 355 113 1 100 (1 + ((73 : Nat) : Int)) (22, 7) = (22, 7) := by kernel_rfl
theorem aw_row74 : rowF 355 113 1 100 (1 + ((74 : Nat) : Int)) (22, 7) = (22, 7) := by kernel_rfl
theorem aw_row75 : rowF 355 113 1 100 (1 + ((75 : Nat) : Int)) (22, 7) = (22, 7) := by kernel_rfl
theorem aw_row76 : rowF 355 113 1 100 (1 + ((76 : Nat) : Int)) (22, 7) = (22, 7) := by kernel_rfl
theorem aw_row77 : rowF 355 113 1 100 (1 + ((77 : Nat) : Int)) (22, 7) = (22, 7) := by kernel_rfl
theorem aw_row78 : rowF 355 113 1 100 (1 + ((78 : Nat) : Int)) (22, 7) = (22, 7) := by kernel_rfl
theorem aw_row79 : rowF 355 113 1 100 (1 + ((79 : Nat) : Int)) (22, 7) = (22, 7) := by kernel_rfl
theorem aw_row80 : rowF 355 113 1 100 (1 + ((80 : Nat) : Int)) (22, 7) = (22, 7) := by kernel_rfl
theorem aw_row81 : rowF 355 113 1 100 (1 + ((81 : Nat) : Int)) (22, 7) = (22, 7) := by kernel_rfl
theorem aw_row82 : rowF 355 113 1 100 (1 + ((82 : Nat) : Int)) (22, 7) = (22, 7) := by kernel_rfl
theorem aw_row83 : rowF 355 113 1 100 (1 + ((83 : Nat) : Int)) (22, 7) = (22, 7) := by kernel_rfl
theorem aw_row84 : rowF 355 113 1 100 (1 + ((84 : Nat) : Int)) (22, 7) = (22, 7) := by kernel_rfl
theorem aw_row85 : rowF 355 113 1 100 (1 + ((85 : Nat) : Int)) (22, 7) = (22, 7) := by kernel_rfl
theorem aw_row86 : rowF 355 113 1 100 (1 + ((86 : Nat) : Int)) (22, 7) = (22, 7) := by kernel_rfl
theorem aw_row87 : rowF 355 113 1 100 (1 + ((87 : Nat) : Int)) (22, 7) = (22, 7) := by kernel_rfl
theorem aw_row88 : rowF 355 113 1 100 (1 + ((88 : Nat) : Int)) (22, 7) = (22, 7) := by kernel_rfl
theorem aw_row89 : rowF 355 113 1 100 (1 + ((89 : Nat) : Int)) (22, 7) = (22, 7) := by kernel_rfl
theorem aw_row90 : rowF 355 113 1 100 (1 + ((90 : Nat) : Int)) (22, 7) = (22, 7) := by kernel_rfl
theorem aw_row91 : rowF 355 113 1 100 (1 + ((91 : Nat) : Int)) (22, 7) = (22, 7) := by kernel_rfl
theorem aw_row92 : rowF 355 113 1 100 (1 + ((92 : Nat) : Int)) (22, 7) = (22, 7) := by kernel_rfl
theorem aw_row93 : rowF 355 113 1 100 (1 + ((93 : Nat) : Int)) (22, 7) = (22, 7) := by kernel_rfl
theorem aw_row94 : rowF 355 113 1 100 (1 + ((94 : Nat) : Int)) (22, 7) = (22, 7) := by kernel_rfl
theorem aw_row95 : rowF 355 113 1 100 (1 + ((95 : Nat) : Int)) (22, 7) = (22, 7) := by kernel_rfl
theorem aw_row96 : rowF 355 113 1 100 (1 + ((96 : Nat) : Int)) (22, 7) = (22, 7) := by kernel_rfl
theorem aw_row97 : rowF 355 113 1 100 (1 + ((97 : Nat) : Int)) (22, 7) = (22, 7) := by kernel_rfl
theorem aw_row98 : rowF 355 113 1 100 (1 + ((98 : Nat) : Int)) (22, 7) = (22, 7) := by kernel_rfl
theorem aw_row99 : rowF 355 113 1 100 (1 + ((99 : Nat) : Int)) (22, 7) = (22, 7) := by kernel_rfl
theorem aw_at0 : bestF 355 113 1 100 0 = (1, 1) := by kernel_rfl
theorem aw_at1 : bestF 355 113 1 100 1 = (1, 1) := by rw [bestF_succ, aw_at0]; exact aw_row0
theorem aw_at2 : bestF 355 113 1 100 2 = (2, 1) := by rw [bestF_succ, aw_at1]; exact aw_row1
theorem aw_at3 : bestF 355 113 1 100 3 = (3, 1) := by rw [bestF_succ, aw_at2]; exact aw_row2
theorem aw_at4 : bestF 355 113 1 100 4 = (3, 1) := by rw [bestF_succ, aw_at3]; exact aw_row3
theorem aw_at5 : bestF 355 113 1 100 5 = (3, 1) := by rw [bestF_succ, aw_at4]; exact aw_row4
theorem aw_at6 : bestF 355 113 1 100 6 = (3, 1) := by rw [bestF_succ, aw_at5]; exact aw_row5
theorem aw_at7 : bestF 355 113 1 100 7 = (3, 1) := by rw [bestF_succ, aw_at6]; exact aw_row6
theorem aw_at8 : bestF 355 113 1 100 8 = (3, 1) := by rw [bestF_succ, aw_at7]; exact aw_row7
theorem aw_at9 : bestF 355 113 1 100 9 = (3, 1) := by rw [bestF_succ, aw_at8]; exact aw_row8
theorem aw_at10 : bestF 355 113 1 100 10 = (3, 1) := by rw [bestF_succ, aw_at9]; exact aw_row9
theorem aw_at11 : bestF 355 113 1 100 11 = (3, 1) := by rw [bestF_succ, aw_at10]; exact aw_row10
theorem aw_at12 : bestF 355 113 1 100 12 = (3, 1) := by rw [bestF_succ, aw_at11]; exact aw_row11
theorem aw_at13 : bestF 355 113 1 100 13 = (13, 4) := by rw [bestF_succ, aw_at12]; exact aw_row12
theorem aw_at14 : bestF 355 113 1 100 14 = (13, 4) := by rw [bestF_succ, aw_at13]; exact aw_row13
theorem aw_at15 : bestF 355 113 1 100 15 = (13, 4) := by rw [bestF_succ, aw_at14]; exact aw_row14
theorem aw_at16 : bestF 355 113 1 100 16 = (16, 5) := by rw [bestF_succ, aw_at15]; exact aw_row15
theorem aw_at17 : bestF 355 113 1 100 17 = (16, 5) := by rw [bestF_succ, aw_at16]; exact aw_row16
theorem aw_at18 : bestF 355 113 1 100 18 = (16, 5) := by rw [bestF_succ, aw_at17]; exact aw_row17
theorem aw_at19 : bestF 355 113 1 100 19 = (19, 6) := by rw [bestF_succ, aw_at18]; exact aw_row18
theorem aw_at20 : bestF 355 113 1 100 20 = (19, 6) := by rw [bestF_succ, aw_at19]; exact aw_row19
theorem aw_at21 : bestF 355 113 1 100 21 = (19, 6) := by rw [bestF_succ, aw_at20]; exact aw_row20
theorem aw_at22 : bestF 355 113 1 100 22 = (22, 7) := by rw [bestF_succ, aw_at21]; exact aw_row21
theorem aw_at23 : bestF 355 113 1 100 23 = (22, 7) := by rw [bestF_succ, aw_at22]; exact aw_row22
theorem aw_at24 : bestF 355 113 1 100 24 = (22, 7) := by rw [bestF_succ, aw_at23]; exact aw_row23
theorem aw_at25 : bestF 355 113 1 100 25 = (22, 7) := by rw [bestF_succ, aw_at24]; exact aw_row24
theorem aw_at26 : bestF 355 113 1 100 26 = (22, 7) := by rw [bestF_succ, aw_at25]; exact aw_row25
theorem aw_at27 : bestF 355 113 1 100 27 = (22, 7) := by rw [bestF_succ, aw_at26]; exact aw_row26
theorem aw_at28 : bestF 355 113 1 100 28 = (22, 7) := by rw [bestF_succ, aw_at27]; exact aw_row27
theorem aw_at29 : bestF 355 113 1 100 29 = (22, 7) := by rw [bestF_succ, aw_at28]; exact aw_row28
theorem aw_at30 : bestF 355 113 1 100 30 = (22, 7) := by rw [bestF_succ, aw_at29]; exact aw_row29
theorem aw_at31 : bestF 355 113 1 100 31 = (22, 7) := by rw [bestF_succ, aw_at30]; exact aw_row30
theorem aw_at32 : bestF 355 113 1 100 32 = (22, 7) := by rw [bestF_succ, aw_at31]; exact aw_row31
theorem aw_at33 : bestF 355 113 1 100 33 = (22, 7) := by rw [bestF_succ, aw_at32]; exact aw_row32
theorem aw_at34 : bestF 355 113 1 100 34 = (22, 7) := by rw [bestF_succ, aw_at33]; exact aw_row33
theorem aw_at35 : bestF 355 113 1 100 35 = (22, 7) := by rw [bestF_succ, aw_at34]; exact aw_row34
theorem aw_at36 : bestF 355 113 1 100 36 = (22, 7) := by rw [bestF_succ, aw_at35]; exact aw_row35
theorem aw_at37 : bestF 355 113 1 100 37 = (22, 7) := by rw [bestF_succ, aw_at36]; exact aw_row36
theorem aw_at38 : bestF 355 113 1 100 38 = (22, 7) := by rw [bestF_succ, aw_at37]; exact aw_row37
theorem aw_at39 : bestF 355 113 1 100 39 = (22, 7) := by rw [bestF_succ, aw_at38]; exact aw_row38
theorem aw_at40 : bestF 355 113 1 100 40 = (22, 7) := by rw [bestF_succ, aw_at39]; exact aw_row39
theorem aw_at41 : bestF 355 113 1 100 41 = (22, 7) := by rw [bestF_succ, aw_at40]; exact aw_row40
theorem aw_at42 : bestF 355 113 1 100 42 = (22, 7) := by rw [bestF_succ, aw_at41]; exact aw_row41
theorem aw_at43 : bestF 355 113 1 100 43 = (22, 7) := by rw [bestF_succ, aw_at42]; exact aw_row42
theorem aw_at44 : bestF 355 113 1 100 44 = (22, 7) := by rw [bestF_succ, aw_at43]; exact aw_row43
theorem aw_at45 : bestF 355 113 1 100 45 = (22, 7) := by rw [bestF_succ, aw_at44]; exact aw_row44
theorem aw_at46 : bestF 355 113 1 100 46 = (22, 7) := by rw [bestF_succ, aw_at45]; exact aw_row45
theorem aw_at47 : bestF 355 113 1 100 47 = (22, 7) := by rw [bestF_succ, aw_at46]; exact aw_row46
theorem aw_at48 : bestF 355 113 1 100 48 = (22, 7) := by rw [bestF_succ, aw_at47]; exact aw_row47
theorem aw_at49 : bestF 355 113 1 100 49 = (22, 7) := by rw [bestF_succ, aw_at48]; exact aw_row48
theorem aw_at50 : bestF 355 113 1 100 50 = (22, 7) := by rw [bestF_succ, aw_at49]; exact aw_row49
theorem aw_at51 : bestF 355 113 1 100 51 = (22, 7) := by rw [bestF_succ, aw_at50]; exact aw_row50
theorem aw_at52 : bestF 355 113 1 100 52 = (22, 7) := by rw [bestF_succ, aw_at51]; exact aw_row51
theorem aw_at53 : bestF 355 113 1 100 53 = (22, 7) := by rw [bestF_succ, aw_at52]; exact aw_row52
theorem aw_at54 : bestF 355 113 1 100 54 = (22, 7) := by rw [bestF_succ, aw_at53]; exact aw_row53
theorem aw_at55 : bestF 355 113 1 100 55 = (22, 7) := by rw [bestF_succ, aw_at54]; exact aw_row54
theorem aw_at56 : bestF 355 113 1 100 56 = (22, 7) := by rw [bestF_succ, aw_at55]; exact aw_row55
theorem aw_at57 : bestF 355 113 1 100 57 = (22, 7) := by rw [bestF_succ, aw_at56]; exact aw_row56
theorem aw_at58 : bestF 355 113 1 100 58 = (22, 7) := by rw [bestF_succ, aw_at57]; exact aw_row57
theorem aw_at59 : bestF 355 113 1 100 59 = (22, 7) := by rw [bestF_succ, aw_at58]; exact aw_row58
theorem aw_at60 : bestF 355 113 1 100 60 = (22, 7) := by rw [bestF_succ, aw_at59]; exact aw_row59
theorem aw_at61 : bestF 355 113 1 100 61 = (22, 7) := by rw [bestF_succ, aw_at60]; exact aw_row60
theorem aw_at62 : bestF 355 113 1 100 62 = (22, 7) := by rw [bestF_succ, aw_at61]; exact aw_row61
theorem aw_at63 : bestF 355 113 1 100 63 = (22, 7) := by rw [bestF_succ, aw_at62]; exact aw_row62
theorem aw_at64 : bestF 355 113 1 100 64 = (22, 7) := by rw [bestF_succ, aw_at63]; exact aw_row63
theorem aw_at65 : bestF 355 113 1 100 65 = (22, 7) := by rw [bestF_succ, aw_at64]; exact aw_row64
theorem aw_at66 : bestF 355 113 1 100 66 = (22, 7) := by rw [bestF_succ, aw_at65]; exact aw_row65
theorem aw_at67 : bestF 355 113 1 100 67 = (22, 7) := by rw [bestF_succ, aw_at66]; exact aw_row66
theorem aw_at68 : bestF 355 113 1 100 68 = (22, 7) := by rw [bestF_succ, aw_at67]; exact aw_row67
theorem aw_at69 : bestF 355 113 1 100 69 = (22, 7) := by rw [bestF_succ, aw_at68]; exact aw_row68
theorem aw_at70 : bestF 355 113 1 100 70 = (22, 7) := by rw [bestF_succ, aw_at69]; exact aw_row69
theorem aw_at71 : bestF 355 113 1 100 71 = (22, 7) := by rw [bestF_succ, aw_at70]; exact aw_row70
theorem aw_at72 : bestF 355 113 1 100 72 = (22, 7) := by rw [bestF_succ, aw_at71]; exact aw_row71
theorem aw_at73 : bestF 355 113 1 100 73 = (22, 7) := by rw [bestF_succ, aw_at72]; exact aw_row72
theorem aw_at74 : bestF 355 113 1 100 74 = (22, 7) := by rw [bestF_succ, aw_at73]; exact aw_row73
theorem aw_at75 : bestF 355 113 1 100 75 = (22, 7) := by rw [bestF_succ, aw_at74]; exact aw_row74
theorem aw_at76 : bestF 355 113 1 100 76 = (22, 7) := by rw [bestF_succ, aw_at75]; exact aw_row75
theorem aw_at77 : bestF 355 113 1 100 77 = (22, 7) := by rw [bestF_succ, aw_at76]; exact aw_row76
theorem aw_at78 : bestF 355 113 1 100 78 = (22, 7) := by rw [bestF_succ, aw_at77]; exact aw_row77
theorem aw_at79 : bestF 355 113 1 100 79 = (22, 7) := by rw [bestF_succ, aw_at78]; exact aw_row78
theorem aw_at80 : bestF 355 113 1 100 80 = (22, 7) := by rw [bestF_succ, aw_at79]; exact aw_row79
theorem aw_at81 : bestF 355 113 1 100 81 = (22, 7) := by rw [bestF_succ, aw_at80]; exact aw_row80
theorem aw_at82 : bestF 355 113 1 100 82 = (22, 7) := by rw [bestF_succ, aw_at81]; exact aw_row81
theorem aw_at83 : bestF 355 113 1 100 83 = (22, 7) := by rw [bestF_succ, aw_at82]; exact aw_row82
theorem aw_at84 : bestF 355 113 1 100 84 = (22, 7) := by rw [bestF_succ, aw_at83]; exact aw_row83
theorem aw_at85 : bestF 355 113 1 100 85 = (22, 7) := by rw [bestF_succ, aw_at84]; exact aw_row84
theorem aw_at86 : bestF 355 113 1 100 86 = (22, 7) := by rw [bestF_succ, aw_at85]; exact aw_row85
theorem aw_at87 : bestF 355 113 1 100 87 = (22, 7) := by rw [bestF_succ, aw_at86]; exact aw_row86
theorem aw_at88 : bestF 355 113 1 100 88 = (22, 7) := by rw [bestF_succ, aw_at87]; exact aw_row87
theorem aw_at89 : bestF 355 113 1 100 89 = (22, 7) := by rw [bestF_succ, aw_at88]; exact aw_row88
theorem aw_at90 : bestF 355 113 1 100 90 = (22, 7) := by rw [bestF_succ, aw_at89]; exact aw_row89
theorem aw_at91 : bestF 355 113 1 100 91 = (22, 7) := by rw [bestF_succ, aw_at90]; exact aw_row90
theorem aw_at92 : bestF 355 113 1 100 92 = (22, 7) := by rw [bestF_succ, aw_at91]; exact aw_row91
theorem aw_at93 : bestF 355 113 1 100 93 = (22, 7) := by rw [bestF_succ, aw_at92]; exact aw_row92
theorem aw_at94 : bestF 355 113 1 100 94 = (22, 7) := by rw [bestF_succ, aw_at93]; exact aw_row93
theorem aw_at95 : bestF 355 113 1 100 95 = (22, 7) := by rw [bestF_succ, aw_at94]; exact aw_row94
theorem aw_at96 : bestF 355 113 1 100 96 = (22, 7) := by rw [bestF_succ, aw_at95]; exact aw_row95
theorem aw_at97 : bestF 355 113 1 100 97 = (22, 7) := by rw [bestF_succ, aw_at96]; exact aw_row96
theorem aw_at98 : bestF 355 113 1 100 98 = (22, 7) := by rw [bestF_succ, aw_at97]; exact aw_row97
theorem aw_at99 : bestF 355 113 1 100 99 = (22, 7) := by rw [bestF_succ, aw_at98]; exact aw_row98
theorem aw_at100 : bestF 355 113 1 100 100 = (22, 7) := by rw [bestF_succ, aw_at99]; exact aw_row99
theorem awake_best : bestP 355 113 1 100 = (22, 7) := aw_at100

end Go.Proofs.Ytfigbdhfmlhjdaa

end

section
/- The examples with which each statement begins are so. -/
namespace Go.Proofs.Ytfigbdhfmlhjdaa
open Go.RowKit

theorem tree_any (w : World) : Calls Try.prog 22 #[] w fun e w' => e = .returned (.slice (some ⟨w.heap.size, 0, none⟩) 3 3) ∧ w' = w.alloc (.cells (rkCells treeL).toArray 65) := by
  go_enter Try.func22, Try.ntmps22
  go_wp2
  go_ret
  exact ⟨rfl, rfl⟩

theorem treeL_fits : ∀ r ∈ treeL, r.Fits := by
  intro r hr
  simp only [treeL, List.mem_cons, List.not_mem_nil, or_false] at hr
  rcases hr with rfl | rfl | rfl <;> exact ⟨by decide, by decide, by decide⟩

theorem awake_shares (A : Option Addr) (N : Nat) (w : World) (hx : Reads w N 5 A 3 (rkCells treeL)) (hN : N ≤ w.heap.size) :
    Calls Try.prog 13 #[.slice A 3 3] w fun e w' => ∃ B c, e = .returned (.tuple #[.slice B 4 c, .int .i64 0]) ∧ Below w.heap.size w w' ∧ Reads w' w'.heap.size 2 B 4 (cells2 [(1, 3), (1, 3), (1, 12), (1, 4)]) :=
  (Shares_any treeL treeL_fits A 3 3 N w (by decide) hx hN (fun _ => ⟨_, treeL_pts, by decide⟩)).mono fun e w' ⟨hb, _, _, h⟩ => by
    obtain ⟨v, he, ho⟩ := h treeL_open _ treeL_shares
    obtain ⟨B, c, rfl, hr⟩ := own_reads ho
    exact ⟨B, c, he, hb, hr⟩

theorem awake_back (A : Option Addr) (N : Nat) (w : World) (hx : Reads w N 2 A 2 (cells2 [(10, 40), (20, 30)])) (hN : N ≤ w.heap.size) :
    Calls Try.prog 23 #[.slice A 2 2] w fun e w' => e = .returned (.tuple #[.int .i64 12, .int .i64 0]) ∧ Below w.heap.size w w' :=
  (returns_any A 2 2 N _ w hx hN (by decide)).mono fun e w' ⟨he, hb⟩ => ⟨by rw [he, awake_returns], hb⟩

theorem awake_pair (w : World) : Calls Try.prog 24 #[.agg #[.int .i64 355, .int .i64 113], .int .i64 1, .int .i64 100] w fun e w' => e = .returned (.tuple #[.agg #[.int .i64 22, .int .i64 7], .int .i64 0]) ∧ Below w.heap.size w w' :=
  (bestpair_any 355 113 1 100 w (by decide) (by decide) (by decide) (by decide)).mono fun e w' ⟨hb, _, h⟩ => ⟨by rw [h (by kernel_rfl), awake_best], hb⟩

theorem awake_any (w : World) : Calls Try.prog 5 #[] w fun e w' => e = .returned (.bool true) ∧ Below w.heap.size w w' := by
  go_enter Try.func5, Try.ntmps5
  go_wp2_with (first | (go_at_call 22; refine (tree_any _).mono ?_; rintro e w1 ⟨rfl, rfl⟩))
  refine (awake_shares _ _ _ (Blk.reads (n := 3) (size := 5) (Blk.at_ w rfl _ _) (by kernel_rfl)) (Nat.le_refl _)).mono ?_
  rintro e w1 ⟨B, c, rfl, hb1, hr1⟩
  have hb1' : Below w.heap.size w w1 := ((Below.refl _ _).alloc (Nat.le_refl _) _).trans (hb1.mono (by simp))
  have HB1 := Lib.hid hb1'
  have HR1 := Lib.hid hr1
  clear hb1 hb1' hr1
  go_wp2_with fail
  have hwant : Blk (w1.alloc (.cells #[.int .i64 1, .int .i64 3, .int .i64 1, .int .i64 3, .int .i64 1, .int .i64 12, .int .i64 1, .int .i64 4] 35)) w1.heap.size 35 #[.int .i64 1, .int .i64 3, .int .i64 1, .int .i64 3, .int .i64 1, .int .i64 12, .int .i64 1, .int .i64 4] := Blk.new _ _ _
  refine (awake_back _ _ _ (Blk.reads (n := 2) (size := 2) (Blk.at_ _ (by simp) _ _) (by kernel_rfl)) (Nat.le_refl _)).mono ?_
  rintro e w2 ⟨rfl, hb2⟩
  have hwant2 := (hwant.alloc (.cells #[.int .i64 10, .int .i64 40, .int .i64 20, .int .i64 30] 59)).below hb2 (by simp; omega)
  simp only [World.size_alloc] at hb2
  have hb2' : Below w1.heap.size w1 w2 := (((Below.refl _ _).alloc (Nat.le_refl _) _).alloc (by simp) _).trans (hb2.mono (by omega))
  have hz2 := hb2.size
  have HB2 := Lib.hid hb2'
  have HW2 := Lib.hid hwant2
  clear hb2 hb2' hwant hwant2
  go_wp2_with fail
  refine (awake_pair _).mono ?_
  rintro e w3 ⟨rfl, hb3⟩
  have hwant3 := HW2.out.below hb3 HW2.out.lt
  have hr3 := (HR1.out.belowLe HB2.out (Nat.le_refl _)).belowLe hb3 (HB2.out.size)
  have hz3 := hb3.size
  have HB3 := Lib.hid (HB1.out.trans ((HB2.out.mono HB1.out.size).trans (hb3.mono (Nat.le_trans HB1.out.size HB2.out.size))))
  have HR3 := Lib.hid hr3
  have HW3 := Lib.hid hwant3
  clear hwant3 hr3 hb3
  go_wp2_with fail
  have hW : Blk (w3.alloc (.cells #[.int .i64 22, .int .i64 7] 59)) w1.heap.size 35 _ := HW3.out.alloc _
  refine (fracs_any B (some ⟨w1.heap.size, 0, none⟩) c 4 4 4 [(1, 3), (1, 3), (1, 12), (1, 4)] [(1, 3), (1, 3), (1, 12), (1, 4)] _ (w3.alloc (.cells #[.int .i64 22, .int .i64 7] 59)).heap.size (Reads.more (HR3.out.alloc (by have := HB2.out.size; omega) _) (by have := HB2.out.size; simp; omega)) (Blk.reads (n := 4) (size := 2) hW (by kernel_rfl)) (by decide) (by decide)).mono ?_
  rintro e w4 ⟨rfl, q, rfl⟩
  have hg : Blk (w3.alloc (.cells #[.int .i64 22, .int .i64 7] 59)) w3.heap.size 59 #[.int .i64 22, .int .i64 7] := Blk.new _ _ _
  go_wp2
  go_ret
  exact ⟨rfl, below_drewN (HB3.out.alloc HB3.out.size _) _⟩

end Go.Proofs.Ytfigbdhfmlhjdaa

end

section
/- The walk of the statement on trees. -/
namespace Go.Proofs.Ytfigbdhfmlhjdaa
open Go.RowKit



theorem rchecktree_is (l : List Rk) (hf : ∀ r ∈ l, r.Fits) (A : Option Addr) (n c N : Nat) (E : Int) (hE : openErr l = E) (w : World) (hx : Reads w N 5 A n (rkCells l)) (hN : N ≤ w.heap.size) (hn : n ≤ 100000) (hnc : n ≤ c) (hcm : c ≤ 9223372036854775807) :
    Calls Try.prog 9 #[.slice A n c] w fun e w' => e = .returned (.int .i64 E) ∧ Below w.heap.size w w' := hE ▸ rchecktree_any l hf A n c N w hx hN hn hnc hcm



end Go.Proofs.Ytfigbdhfmlhjdaa

end
