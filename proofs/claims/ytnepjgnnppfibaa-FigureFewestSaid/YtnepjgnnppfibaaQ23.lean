import Derived.Test.YtnepjgnnppfibaaQ14
import Derived.Test.YtnepjgnnppfibaaQ18
import Derived.Test.YtnepjgnnppfibaaQ22

section
/- Plain law of the lower hull: no zone lies below the line through two neighbours of the hull; the corner of the mean. -/
namespace Go.Proofs.Ytnepjgnnppfibaa
open Go.RowKit

/-- On which side of the line through a and b the zone c lies; not negative: on it or above it (q a < q b). -/
def crossF (h q : Nat → Int) (a b c : Nat) : Int := (h c - h a) * (q b - q a) - (h b - h a) * (q c - q a)
section
variable {h q : Nat → Int}
/-- No zone of P lies below an edge of the chain (its last zone first). -/
def EdgesR (h q : Nat → Int) (P : Nat → Prop) : List Nat → Prop
  | b :: a :: r => q a < q b ∧ (∀ p, P p → 0 ≤ crossF h q a b p) ∧ EdgesR h q P (a :: r)
  | _ => True
structure HullI (h q : Nat → Int) (P : Nat → Prop) (st : List Nat) : Prop where
  edges : EdgesR h q P st
  has : ∀ x ∈ st, P x
  top : ∀ b r, st = b :: r → ∀ p, P p → q p ≤ q b ∧ (q p = q b → h b ≤ h p)
  low : ∀ z, st.getLast? = some z → ∀ p, P p → q z ≤ q p
theorem EdgesR.more {P P' : Nat → Prop} : ∀ {st : List Nat}, EdgesR h q P st → (∀ a b r s, st = s ++ b :: a :: r → ∀ p, P' p → 0 ≤ crossF h q a b p) → EdgesR h q P' st
  | [], _, _ => trivial
  | [_], _, _ => trivial
  | b :: a :: r, he, hP => ⟨he.1, fun p hp => hP a b r [] rfl p hp, EdgesR.more he.2.2 fun a' b' r' s hs p hp => hP a' b' r' (b :: s) (by rw [hs]; rfl) p hp⟩
theorem EdgesR.at {P : Nat → Prop} : ∀ {st : List Nat}, EdgesR h q P st → ∀ {a b : Nat} {r s : List Nat}, st = s ++ b :: a :: r → q a < q b ∧ ∀ p, P p → 0 ≤ crossF h q a b p
  | [], _, a, b, r, s, e => by simp at e
  | [_], _, a, b, r, s, e => by
    cases s with
    | nil => simp at e
    | cons x s => simp at e
  | y :: x :: t, he, a, b, r, s, e => by
    cases s with
    | nil => simp only [List.nil_append, List.cons.injEq] at e; obtain ⟨rfl, rfl, rfl⟩ := e; exact ⟨he.1, he.2.1⟩
    | cons z s => simp only [List.cons_append, List.cons.injEq] at e; exact EdgesR.at he.2.2 e.2
end
end Go.Proofs.Ytnepjgnnppfibaa

end

section
/- Plain law of the line of least removal: no zone lies below it, it touches its zones, they lie on both sides of the mean; no line below the map removes less. -/
namespace Go.Proofs.Ytnepjgnnppfibaa
open Go.RowKit

theorem sumN_congr {f g : Nat → Int} : ∀ {n : Nat}, (∀ i, i < n → f i = g i) → sumN f n = sumN g n
  | 0, _ => rfl
  | n + 1, h => by
    show sumN f n + f n = sumN g n + g n
    rw [sumN_congr (n := n) fun i hi => h i (by omega), h n (by omega)]
/-- The sum of weight times removal, times the denominators. -/
def remS (m : Rm) (a b c d : Int) (k : Nat) : Int := sumN (fun i => m.u i * remN m a b c d i) k
/-- The line of least removal. -/
structure RefOk (m : Rm) (a b c d : Int) (x y : Nat) : Prop where
  b1 : 1 ≤ b
  d1 : 1 ≤ d
  ga : Int.gcd a b = 1
  gc : Int.gcd c d = 1
  x1 : x < m.n
  y1 : y < m.n
  up : ∀ z, z < m.n → 0 ≤ remN m a b c d z
  at1 : remN m a b c d x = 0
  at2 : remN m a b c d y = 0
  lo : m.q x * m.sw m.n ≤ m.sq m.n
  hi : m.sq m.n ≤ m.q y * m.sw m.n
end Go.Proofs.Ytnepjgnnppfibaa

end

section
/- The fewest sessions: the search. -/
namespace Go.Proofs.Ytnepjgnnppfibaa
open Go Go.RowKit

/-- While the counter is made: operation 5 makes the list, operation 7 the counter. -/
def MkC (m : Nat) (M : Int) (W : World) (N : Nat) (f : Nat → Bool) (w' : World) : Prop :=
  Below W.heap.size W w' ∧ W.heap.size = N ∧ (f 5 = false → w'.heap.size = N) ∧ (f 5 = true → BlkL w' N m (fun _ => 0) []) ∧ (f 5 = true → f 7 = false → w'.heap.size = N + 1) ∧ (f 7 = true → Blk w' (N + 1) 148 #[.int .i64 M, .slice (some ⟨N, 0, none⟩) m m])

/-- The best list so far, and its sum. -/
def BestAt (base B m : Nat) (bo : Option Nat) (bv fv : Value) (w : World) : Prop :=
  match bo with
  | none => bv = .slice none 0 0 ∧ fv = .int .i64 0
  | some i => ∃ g c, bv = .slice (some ⟨g, 0, none⟩) m c ∧ fv = .int .i64 (lsum B m i) ∧ w.ownsRow base 3 1 (.slice (some ⟨g, 0, none⟩) m c) m ((lst B m i).map (.int .i64))

open Classical in
/-- The count whose list the block holds. -/
noncomputable def jOf (B m N : Nat) (w : World) : Nat := if h : ∃ j, j < B ^ m ∧ BlkL w N m (fun q => (dg B (m - 1 - q) j : Int)) [] then Classical.choose h else 0
theorem jOf_eq {B m N j : Nat} {w : World} (hB : 0 < B) (hj : j < B ^ m) (h : BlkL w N m (fun q => (dg B (m - 1 - q) j : Int)) []) : jOf B m N w = j := by
  have he : ∃ j, j < B ^ m ∧ BlkL w N m (fun q => (dg B (m - 1 - q) j : Int)) [] := ⟨j, hj, h⟩
  unfold jOf
  rw [dif_pos he]
  obtain ⟨h1, h2⟩ := Classical.choose_spec he
  refine dg_inj hB h1 hj fun e hem => ?_
  have c1 := h2.cell (j := m - 1 - e) (by omega)
  have c2 := h.cell (j := m - 1 - e) (by omega)
  rw [c1] at c2
  have e3 : m - 1 - (m - 1 - e) = e := by omega
  simp only [e3] at c2
  have := Option.some.inj c2
  injection this with _ h3
  omega
noncomputable def jMs (B m N : Nat) (v : Value) (w : World) : Nat := match v with | .bool true => B ^ m - jOf B m N w + 1 | _ => 0

section
variable {h v : List Int} {ws : List (List Int)} {T : Int} {B j i : Nat}
theorem best_nn (h1 : bestK h v ws T B j = none) (h2 : fitsK h v ws T (lst B ws.length j) = false) : bestK h v ws T B (j + 1) = none := by unfold bestK; rw [h1]; simp only; rw [if_neg (by rw [h2]; simp)]
theorem best_ny (h1 : bestK h v ws T B j = none) (h2 : fitsK h v ws T (lst B ws.length j) = true) : bestK h v ws T B (j + 1) = some j := by unfold bestK; rw [h1]; simp only; rw [if_pos h2]
theorem best_sn (h1 : bestK h v ws T B j = some i) (h2 : ¬ (lsum B ws.length j < lsum B ws.length i ∧ fitsK h v ws T (lst B ws.length j) = true)) : bestK h v ws T B (j + 1) = some i := by unfold bestK; rw [h1]; simp only; rw [if_neg h2]
theorem best_sy (h1 : bestK h v ws T B j = some i) (h2 : lsum B ws.length j < lsum B ws.length i) (h3 : fitsK h v ws T (lst B ws.length j) = true) : bestK h v ws T B (j + 1) = some j := by unfold bestK; rw [h1]; simp only; rw [if_pos ⟨h2, h3⟩]
end
theorem BestAt.grown {base B m N : Nat} {bo : Option Nat} {bv fv : Value} {w w' : World} (h : BestAt base B m bo bv fv w) (hg : w.grownBy w' (some N)) (hN : N < base) : BestAt base B m bo bv fv w' := by
  cases bo with
  | none => exact h
  | some i =>
    obtain ⟨g, c, e1, e2, ho⟩ := h
    refine ⟨g, c, e1, e2, own_same ho fun g' hg' => ?_⟩
    have hl := own_lt ho hg'
    exact hg.block g' hl.2 (fun e => by have := Option.some.inj e; omega)
theorem jMs_lt {B m N j : Nat} {w w' : World} (hB : 1 ≤ B) (hj : j < B ^ m) (h : BlkL w N m (fun q => (dg B (m - 1 - q) j : Int)) []) (hj' : j + 1 < B ^ m) (h' : BlkL w' N m (fun q => (dg B (m - 1 - q) (j + 1) : Int)) []) : jMs B m N (.bool true) w' < jMs B m N (.bool true) w := by
  show B ^ m - jOf B m N w' + 1 < B ^ m - jOf B m N w + 1
  rw [jOf_eq hB hj h, jOf_eq hB hj' h']
  omega
theorem jMs_end {B m N : Nat} {w w' : World} : jMs B m N (.bool false) w' < jMs B m N (.bool true) w := by
  show 0 < _ + 1
  omega

set_option maxRecDepth 100000 in
set_option maxHeartbeats 4000000 in
theorem few_ok (A V B : Option Addr) (n ch nv cv m d : Nat) (h v : List Int) (t : List TRow) (M T E : Int) (hE : fewErr h v (t.map (·.xs)) M T = E) (hn : n ≤ 1000) (hnv : nv ≤ 1000) (hm : m ≤ 1000) (h1 : twoErr h v = 0) (h2 : kindErr n (t.map (·.xs)) M T = 0) (w : World) (hx : Reads w w.heap.size 1 A n (h.map (.int .i64))) (hv : Reads w w.heap.size 1 V nv (v.map (.int .i64))) (hk : ReadsT w w.heap.size B m t) :
    Calls Try.prog 69 #[.slice A n ch, .slice V nv cv, .agg #[.slice B m d, .int .i64 M, .int .i64 T]] w (FewPost h v (t.map (·.xs)) M T m E w) := by
  have hl : h.length = n := by have := hx.1; simpa using this
  have hvl : v.length = nv := by have := hv.1; simpa using this
  have HVL := Lib.hid hvl
  have HE := Lib.hid hE
  have HE1 := Lib.hid h1
  have HE2 := Lib.hid h2
  have HL := Lib.hid hl
  have hmf : ∀ (fn : Fn) (first cap : Array Value) (w : World), (Instr.makeFunc fn first cap).run Try.prog w = .ok (.func fn first cap) w := fun _ _ _ _ => rfl
  have hmk : ∀ w : World, (Instr.makeSlice 22 (.int .i64 (m : Int)) (.int .i64 (m : Int))).run Try.prog w = .ok (.slice (some ⟨w.heap.size, 0, none⟩) m m) (w.alloc (.cells ((tabL m fun _ => 0).map (Value.int .i64) ++ []).toArray 3)) := fun w => by
    obtain ⟨i0, hi0, hz0, hz1, hz2⟩ := info_parts info_int
    have := run_make_rowN (P := Try.prog) 22 3 i0 _ Try.underlying22 hi0 hz0 .i64 .i64 m m (Nat.le_refl _) (by rw [hz2]; omega) (by omega) w
    rw [this, hz1, Nat.mul_one]
    rw [show (Value.int .i64 0).cells = #[.int .i64 0] from rfl, made_one]
    unfold tabL
    rw [List.append_nil, List.map_map]
    rfl
  clear hE h1 h2 hl hvl
  go_enter Try.func69, Try.ntmps69
  have R0_0 := Lib.hid hx
  clear hx
  have R1_0 := Lib.hid hv
  clear hv
  have R2_0 := Lib.hid hk
  clear hk
  go_wp2_with fail
  generalize hwn : (((w.alloc (.cells #[.slice A n ch] 22)).alloc (.cells #[.slice V nv cv] 22)).alloc (.cells #[.slice B m d, .int .i64 (M), .int .i64 (T)] 107)) = w1
  have hbn : Below w.heap.size w w1 := by rw [← hwn]; repeat' (first | exact Below.refl _ _ | refine below_drewN ?_ _ | refine Below.drew ?_ | refine Below.alloc ?_ (by first | omega | (simp; done) | (simp; omega) | (simp [World.setCell]; omega)) _ | refine Below.setCell ?_ (by first | omega | (simp; done) | (simp; omega)) _)
  have HB1 := Lib.hid (show Below w.heap.size w w1 from hbn)
  have K0_1 := Lib.hid (show Blk w1 (w.heap.size) 22 #[.slice A n ch] by rw [← hwn]; repeat' (first | exact Blk.at_ _ (by first | rfl | (simp; done) | (simp; omega)) _ _ | refine Blk.drewN ?_ _ | refine Blk.drew ?_ | refine Blk.alloc ?_ _ | refine Blk.far ?_ (by first | omega | (simp; done) | (simp; omega)) _ | assumption))
  have K1_1 := Lib.hid (show Blk w1 (w.heap.size + 1) 22 #[.slice V nv cv] by rw [← hwn]; repeat' (first | exact Blk.at_ _ (by first | rfl | (simp; done) | (simp; omega)) _ _ | refine Blk.drewN ?_ _ | refine Blk.drew ?_ | refine Blk.alloc ?_ _ | refine Blk.far ?_ (by first | omega | (simp; done) | (simp; omega)) _ | assumption))
  have K2_1 := Lib.hid (show Blk w1 (w.heap.size + 1 + 1) 107 #[.slice B m d, .int .i64 (M), .int .i64 (T)] by rw [← hwn]; repeat' (first | exact Blk.at_ _ (by first | rfl | (simp; done) | (simp; omega)) _ _ | refine Blk.drewN ?_ _ | refine Blk.drew ?_ | refine Blk.alloc ?_ _ | refine Blk.far ?_ (by first | omega | (simp; done) | (simp; omega)) _ | assumption))
  have R0_1 := Lib.hid ((R0_0.out.below hbn).more hbn.size)
  have R1_1 := Lib.hid ((R1_0.out.below hbn).more hbn.size)
  have R2_1 := Lib.hid ((R2_0.out.below hbn).more hbn.size)
  have HN1 := Lib.hid hbn
  have hz1 := hbn.size
  clear hwn hbn R0_0 R1_0 R2_0
  have l0_1 : w.heap.size < w1.heap.size := K0_1.out.lt
  have z0_0_1 : w1.cell? ⟨w.heap.size, 0, none⟩ = some (.slice A n ch) := K0_1.out.cell 0
  have l1_1 : w.heap.size + 1 < w1.heap.size := K1_1.out.lt
  have z1_0_1 : w1.cell? ⟨w.heap.size + 1, 0, none⟩ = some (.slice V nv cv) := K1_1.out.cell 0
  have l2_1 : w.heap.size + 1 + 1 < w1.heap.size := K2_1.out.lt
  have z2_0_1 : w1.cell? ⟨w.heap.size + 1 + 1, 0, none⟩ = some (.slice B m d) := K2_1.out.cell 0
  have z2_1_1 : w1.cell? ⟨w.heap.size + 1 + 1, 1, none⟩ = some (.int .i64 (M)) := K2_1.out.cell 1
  have z2_2_1 : w1.cell? ⟨w.heap.size + 1 + 1, 2, none⟩ = some (.int .i64 (T)) := K2_1.out.cell 2
  refine (both_is A n ch V nv cv h v 0 HE1.out _ R0_1.out (by omega) R1_1.out (by omega)).mono ?_
  rintro e w2 ⟨rfl, hb⟩
  have HB2 := Lib.hid (show Below w.heap.size w w2 from step_below hb (by repeat' (first | exact Below.refl _ _ | exact HB1.out | refine below_drewN ?_ _ | refine Below.drew ?_ | refine Below.alloc ?_ (by first | omega | (simp; done) | (simp; omega) | (simp [World.setCell]; omega)) _ | refine Below.setCell ?_ (by first | omega | (simp; done) | (simp; omega)) _ | assumption)))
  have K0_2 := Lib.hid (step_blk hb (show Blk _ (w.heap.size) 22 #[.slice A n ch] by repeat' (first | exact K0_1.out | exact K1_1.out | exact K2_1.out | exact Blk.at_ _ (by first | rfl | (simp; done) | (simp; omega)) _ _ | refine Blk.drewN ?_ _ | refine Blk.drew ?_ | refine Blk.alloc ?_ _ | refine Blk.far ?_ (by first | omega | (simp; done) | (simp; omega)) _ | assumption)))
  have K1_2 := Lib.hid (step_blk hb (show Blk _ (w.heap.size + 1) 22 #[.slice V nv cv] by repeat' (first | exact K0_1.out | exact K1_1.out | exact K2_1.out | exact Blk.at_ _ (by first | rfl | (simp; done) | (simp; omega)) _ _ | refine Blk.drewN ?_ _ | refine Blk.drew ?_ | refine Blk.alloc ?_ _ | refine Blk.far ?_ (by first | omega | (simp; done) | (simp; omega)) _ | assumption)))
  have K2_2 := Lib.hid (step_blk hb (show Blk _ (w.heap.size + 1 + 1) 107 #[.slice B m d, .int .i64 (M), .int .i64 (T)] by repeat' (first | exact K0_1.out | exact K1_1.out | exact K2_1.out | exact Blk.at_ _ (by first | rfl | (simp; done) | (simp; omega)) _ _ | refine Blk.drewN ?_ _ | refine Blk.drew ?_ | refine Blk.alloc ?_ _ | refine Blk.far ?_ (by first | omega | (simp; done) | (simp; omega)) _ | assumption)))
  have hL2 := Lib.hid (show Below w1.heap.size w1 _ from reads_mid hb (by repeat' (first | exact Below.refl _ _ | refine below_drewN ?_ _ | refine Below.drew ?_ | refine Below.alloc ?_ (by first | omega | (simp; done) | (simp; omega) | (simp [World.setCell]; omega)) _ | refine Below.setCell ?_ (by first | omega | (simp; done) | (simp; omega)) _)))
  have R0_2 := Lib.hid (reads_lay hb hL2.out R0_1.out)
  have R1_2 := Lib.hid (reads_lay hb hL2.out R1_1.out)
  have R2_2 := Lib.hid (readsT_lay hb hL2.out R2_1.out)
  clear hL2 R0_1 R1_1 R2_1
  have hz2 := hb.size
  try simp only [World.size_alloc, World.drewN, World.drew] at hz2
  clear hb K0_1 K1_1 K2_1 z0_0_1 l0_1 z1_0_1 l1_1 z2_0_1 z2_1_1 z2_2_1 l2_1
  have l0_2 : w.heap.size < w2.heap.size := K0_2.out.lt
  have z0_0_2 : w2.cell? ⟨w.heap.size, 0, none⟩ = some (.slice A n ch) := K0_2.out.cell 0
  have l1_2 : w.heap.size + 1 < w2.heap.size := K1_2.out.lt
  have z1_0_2 : w2.cell? ⟨w.heap.size + 1, 0, none⟩ = some (.slice V nv cv) := K1_2.out.cell 0
  have l2_2 : w.heap.size + 1 + 1 < w2.heap.size := K2_2.out.lt
  have z2_0_2 : w2.cell? ⟨w.heap.size + 1 + 1, 0, none⟩ = some (.slice B m d) := K2_2.out.cell 0
  have z2_1_2 : w2.cell? ⟨w.heap.size + 1 + 1, 1, none⟩ = some (.int .i64 (M)) := K2_2.out.cell 1
  have z2_2_2 : w2.cell? ⟨w.heap.size + 1 + 1, 2, none⟩ = some (.int .i64 (T)) := K2_2.out.cell 2
  go_wp2_with fail
  refine (checkkinds_is n m d B t M T 0 HE2.out (by omega) _ R2_2.out).mono ?_
  rintro e w3 ⟨rfl, hb⟩
  have HB3 := Lib.hid (show Below w.heap.size w w3 from step_below hb (by repeat' (first | exact Below.refl _ _ | exact HB2.out | refine below_drewN ?_ _ | refine Below.drew ?_ | refine Below.alloc ?_ (by first | omega | (simp; done) | (simp; omega) | (simp [World.setCell]; omega)) _ | refine Below.setCell ?_ (by first | omega | (simp; done) | (simp; omega)) _ | assumption)))
  have K0_3 := Lib.hid (step_blk hb (show Blk _ (w.heap.size) 22 #[.slice A n ch] by repeat' (first | exact K0_2.out | exact K1_2.out | exact K2_2.out | exact Blk.at_ _ (by first | rfl | (simp; done) | (simp; omega)) _ _ | refine Blk.drewN ?_ _ | refine Blk.drew ?_ | refine Blk.alloc ?_ _ | refine Blk.far ?_ (by first | omega | (simp; done) | (simp; omega)) _ | assumption)))
  have K1_3 := Lib.hid (step_blk hb (show Blk _ (w.heap.size + 1) 22 #[.slice V nv cv] by repeat' (first | exact K0_2.out | exact K1_2.out | exact K2_2.out | exact Blk.at_ _ (by first | rfl | (simp; done) | (simp; omega)) _ _ | refine Blk.drewN ?_ _ | refine Blk.drew ?_ | refine Blk.alloc ?_ _ | refine Blk.far ?_ (by first | omega | (simp; done) | (simp; omega)) _ | assumption)))
  have K2_3 := Lib.hid (step_blk hb (show Blk _ (w.heap.size + 1 + 1) 107 #[.slice B m d, .int .i64 (M), .int .i64 (T)] by repeat' (first | exact K0_2.out | exact K1_2.out | exact K2_2.out | exact Blk.at_ _ (by first | rfl | (simp; done) | (simp; omega)) _ _ | refine Blk.drewN ?_ _ | refine Blk.drew ?_ | refine Blk.alloc ?_ _ | refine Blk.far ?_ (by first | omega | (simp; done) | (simp; omega)) _ | assumption)))
  have hL3 := Lib.hid (show Below w2.heap.size w2 _ from reads_mid hb (by repeat' (first | exact Below.refl _ _ | refine below_drewN ?_ _ | refine Below.drew ?_ | refine Below.alloc ?_ (by first | omega | (simp; done) | (simp; omega) | (simp [World.setCell]; omega)) _ | refine Below.setCell ?_ (by first | omega | (simp; done) | (simp; omega)) _)))
  have R0_3 := Lib.hid (reads_lay hb hL3.out R0_2.out)
  have R1_3 := Lib.hid (reads_lay hb hL3.out R1_2.out)
  have R2_3 := Lib.hid (readsT_lay hb hL3.out R2_2.out)
  clear hL3 R0_2 R1_2 R2_2
  have hz3 := hb.size
  try simp only [World.size_alloc, World.drewN, World.drew] at hz3
  clear hb K0_2 K1_2 K2_2 z0_0_2 l0_2 z1_0_2 l1_2 z2_0_2 z2_1_2 z2_2_2 l2_2
  have l0_3 : w.heap.size < w3.heap.size := K0_3.out.lt
  have z0_0_3 : w3.cell? ⟨w.heap.size, 0, none⟩ = some (.slice A n ch) := K0_3.out.cell 0
  have l1_3 : w.heap.size + 1 < w3.heap.size := K1_3.out.lt
  have z1_0_3 : w3.cell? ⟨w.heap.size + 1, 0, none⟩ = some (.slice V nv cv) := K1_3.out.cell 0
  have l2_3 : w.heap.size + 1 + 1 < w3.heap.size := K2_3.out.lt
  have z2_0_3 : w3.cell? ⟨w.heap.size + 1 + 1, 0, none⟩ = some (.slice B m d) := K2_3.out.cell 0
  have z2_1_3 : w3.cell? ⟨w.heap.size + 1 + 1, 1, none⟩ = some (.int .i64 (M)) := K2_3.out.cell 1
  have z2_2_3 : w3.cell? ⟨w.heap.size + 1 + 1, 2, none⟩ = some (.int .i64 (T)) := K2_3.out.cell 2
  go_wp2_with fail
  obtain ⟨N, hN⟩ : ∃ N, w3.heap.size = N := ⟨_, rfl⟩
  have HN := Lib.hid hN
  have lb0 := l2_3
  clear hN
  refine Fx.region (fun f w' => MkC m M w3 N f w') (by kernel_rfl) (by kernel_rfl) ?_ ?_
  · intro f hf0
    exact ⟨below_drewN (Below.refl _ _) 1, HN.out, fun _ => HN.out, fun e => (by rw [hf0 5] at e; cases e), fun e => (by rw [hf0 5] at e; cases e), fun e => (by rw [hf0 7] at e; cases e)⟩
  repeat (first
    | (refine Fx.skip_ (by rfl) (fun f w h => h) ?_; simp only [Act.put, List.setIfInBounds_toArray, List.set_cons_zero, List.set_cons_succ])
    | (refine Fx.val_ ?_ (by rfl) ?_ (fun f w h => h) ?_
       rotate_left
       · intro f w' hD hk
         obtain ⟨hb, hWN, hc0, hc1, hc2, hc3⟩ := id hD
         have y0 : w'.cell? ⟨w.heap.size + 1 + 1, 0, none⟩ = some (.slice B m d) := (hb.cell (p := ⟨w.heap.size + 1 + 1, 0, none⟩) lb0).trans z2_0_3
         have y1 : w'.cell? ⟨w.heap.size + 1 + 1, 1, none⟩ = some (.int .i64 M) := (hb.cell (p := ⟨w.heap.size + 1 + 1, 1, none⟩) lb0).trans z2_1_3
         clear hk hD hb hWN hc0 hc1 hc2 hc3
         go_simp
         try rfl
       simp only [Act.put, List.setIfInBounds_toArray, List.set_cons_zero, List.set_cons_succ]))
  refine Fx.eff_ (.slice (some ⟨N, 0, none⟩) m m) (fun w' => w'.alloc (.cells ((tabL m fun _ => 0).map (Value.int .i64) ++ []).toArray 3)) (by rfl) ?_ ?_ ?_
  · intro f w' hD hk
    obtain ⟨hb, hWN, hc0, hc1, hc2, hc3⟩ := id hD
    have h5 : f 5 = false := hk.1
    have h6 : f 6 = false := hk.un 6 5 (by kernel_rfl) h5
    have h7 : f 7 = false := hk.un 7 6 (by kernel_rfl) h6
    have hsz := hc0 h5
    clear hk hD hb hc0 hc1 hc2 hc3 h5 h6 h7
    go_simp
  · intro f w' hD hk
    obtain ⟨hb, hWN, hc0, hc1, hc2, hc3⟩ := id hD
    have h5 : f 5 = false := hk.1
    have h6 : f 6 = false := hk.un 6 5 (by kernel_rfl) h5
    have h7 : f 7 = false := hk.un 7 6 (by kernel_rfl) h6
    have hsz := hc0 h5
    exact ⟨hb.alloc (by omega) _, hWN, fun e => (by simp [Fx.add] at e), fun _ => (by rw [← hsz]; exact Blk.new _ _ _), fun _ _ => (by simp [hsz]), fun e => (by simp [Fx.add, h7] at e)⟩
  simp only [Act.put, List.setIfInBounds_toArray, List.set_cons_zero, List.set_cons_succ]
  refine Fx.val_ ?_ (by rfl) ?_ (fun f w h => h) ?_
  rotate_left
  · intro f w' hD hk
    obtain ⟨hb, hWN, hc0, hc1, hc2, hc3⟩ := id hD
    clear hk hD hb hWN hc0 hc1 hc2 hc3
    go_simp
    try rfl
  simp only [Act.put, List.setIfInBounds_toArray, List.set_cons_zero, List.set_cons_succ]
  refine Fx.eff_ (.pointer (some ⟨N + 1, 0, none⟩)) (fun w' => w'.alloc (.cells #[.int .i64 M, .slice (some ⟨N, 0, none⟩) m m] 148)) (by rfl) ?_ ?_ ?_
  · intro f w' hD hk
    obtain ⟨hb, hWN, hc0, hc1, hc2, hc3⟩ := id hD
    have h7 : f 7 = false := hk.1
    have h6 : f 6 = true := hk.2.2.1 6 (by kernel_rfl)
    have h5 : f 5 = true := hk.2.2.2 6 5 (by kernel_rfl) h6
    have hsz := hc2 h5 h7
    have hbl := hc1 h5
    clear hk hD hb hc0 hc1 hc2 hc3 h5 h6 h7 hbl
    go_simp
  · intro f w' hD hk
    obtain ⟨hb, hWN, hc0, hc1, hc2, hc3⟩ := id hD
    have h7 : f 7 = false := hk.1
    have h6 : f 6 = true := hk.2.2.1 6 (by kernel_rfl)
    have h5 : f 5 = true := hk.2.2.2 6 5 (by kernel_rfl) h6
    have hsz := hc2 h5 h7
    have hbl := hc1 h5
    exact ⟨hb.alloc (by omega) _, hWN, fun e => (by simp [Fx.add, h5] at e), fun _ => Blk.alloc hbl _, fun _ e => (by simp [Fx.add] at e), fun _ => (by rw [← hsz]; exact Blk.new _ _ _)⟩
  simp only [Act.put, List.setIfInBounds_toArray, List.set_cons_zero, List.set_cons_succ]
  repeat (first
    | (refine Fx.skip_ (by rfl) (fun f w h => h) ?_; simp only [Act.put, List.setIfInBounds_toArray, List.set_cons_zero, List.set_cons_succ])
    | (refine Fx.val_ ?_ (by rfl) ?_ (fun f w h => h) ?_
       rotate_left
       · intro f w' hD hk
         obtain ⟨hb, hWN, hc0, hc1, hc2, hc3⟩ := id hD
         clear hk hD hb hWN hc0 hc1 hc2 hc3
         go_simp
         try rfl
       simp only [Act.put, List.setIfInBounds_toArray, List.set_cons_zero, List.set_cons_succ]))
  refine Fx.nil_ ?_
  intro f w4 hall hD
  obtain ⟨hb, -, -, hbl, -, hbc⟩ := hD
  have hbl := hbl (hall 5 (by simp))
  have hbc := hbc (hall 7 (by simp))
  clear hall
  obtain ⟨-, hwk, hM, hT, hpw⟩ := kind_ok HE2.out
  obtain ⟨b, hbM⟩ : ∃ b : Nat, (M + 1).toNat = b := ⟨_, rfl⟩
  have HM1 := Lib.hid (show M = (b : Int) - 1 by omega)
  have hc3 : FewAt w3 w.heap.size (w.heap.size + 1) (w.heap.size + 1 + 1) n m A V B ch cv d h v t M T := by
    have hn0 : nv = n := by have h1 := (two_ok HE1.out).2.1; rw [HVL.out, HL.out] at h1; exact h1
    subst hn0
    exact FewAt.mk K0_3.out K1_3.out K2_3.out R0_3.out R1_3.out R2_3.out
  have hc3len := hc3.kx.len
  have HC3 := Lib.hid hc3
  have HB34 := Lib.hid hb
  have HBL4 := Lib.hid hbl
  have HBC4 := Lib.hid hbc
  have hNl : N < w4.heap.size := Blk.lt hbl
  have hCl : N + 1 < w4.heap.size := Blk.lt hbc
  have hb1 : 1 ≤ b ∧ b ≤ 101 := by omega
  have hm6 : m ≤ 6 ∧ 1 ≤ m := by
    have h1 := (kind_ok HE2.out).1
    rw [List.length_map, hc3len] at h1
    exact ⟨h1.2, h1.1⟩
  have HWK := Lib.hid hwk
  have HHH := Lib.hid (heights_ok (two_ok HE1.out).1).2.2
  have HHV := Lib.hid (heights_ok (two_ok HE1.out).2.2).2.2
  have HW := Lib.hid (show ∀ r ∈ t, r.n = n ∧ ∀ z ∈ r.xs, 0 ≤ z ∧ z ≤ 100000 from fun r hr => by
    have h1 := wear_ok (hwk r.xs (List.mem_map.2 ⟨r, hr, rfl⟩))
    exact ⟨by rw [← HC3.out.kx.rlen hr]; exact h1.1, h1.2⟩)
  have hp0 : 0 < b ^ m := Nat.pow_pos (by omega)
  clear hb hc3 hbl hbc hwk hpw
  go_wp2
  go_loopw [12, 13, 14] (fun bv fv mv wr => ∃ (j : Nat) (mo : Bool) (bo : Option Nat), mv = .bool mo ∧ j ≤ b ^ m ∧ (mo = true → j < b ^ m ∧ BlkL wr N m (fun q => (dg b (m - 1 - q) j : Int)) []) ∧ (mo = false → j = b ^ m) ∧ w4.grownBy wr (some N) ∧ bestK h v (t.map (·.xs)) T b j = bo ∧ BestAt w4.heap.size b m bo bv fv wr) (fun _ _ mv wr => jMs b m N mv wr)
  case atStart => exact ⟨0, true, none, rfl, by omega, fun _ => ⟨hp0, HBL4.out.congr fun q hq => by unfold dg; rw [Nat.zero_div, Nat.zero_mod]; rfl⟩, fun h => (by cases h), World.grownBy.refl _ _, rfl, rfl, rfl⟩
  case round =>
    obtain ⟨j, mo, bo, rfl, hj, hmt, hme, hgr, hbo, hba⟩ := hrel
    obtain ⟨w5, hnm⟩ : ∃ z : World, z = wr := ⟨_, rfl⟩
    subst hnm
    have hb5 : Below N w4 w5 := ⟨hgr.os, hgr.tape, hgr.output, hgr.size, fun k hk => hgr.block k (by omega) (fun e => (by have := Option.some.inj e; omega))⟩
    have hb35 : Below w3.heap.size w3 w5 := HB34.out.trans (by rw [HN.out]; exact hb5)
    have HB05 := Lib.hid (HB3.out.trans (hb35.mono HB3.out.size))
    have HB35 := Lib.hid hb35
    have HGR := Lib.hid hgr
    have HBO := Lib.hid hbo
    clear hb5 hb35 hgr
    cases mo with
    | false =>
      have hjj := hme rfl
      cases bo with
      | none =>
        obtain ⟨rfl, rfl⟩ := hba
        have HEE := Lib.hid (show (12 : Int) = E by
          rw [← HE.out]
          unfold fewErr
          rw [HE1.out, if_neg (by simp), HL.out, HE2.out, if_neg (by simp), hbM, List.length_map, hc3len, ← hjj, hbo]
          rfl)
        clear hmt hme hjj hbo hj
        go_wp2
        go_ret2
        exact FewPost.bad (by rw [← HEE.out]; decide) (by rw [← HEE.out]; rfl) HB05.out
      | some i =>
        obtain ⟨g, c, rfl, rfl, ho⟩ := hba
        have HEE := Lib.hid (show (0 : Int) = E by
          rw [← HE.out]
          unfold fewErr
          rw [HE1.out, if_neg (by simp), HL.out, HE2.out, if_neg (by simp), hbM, List.length_map, hc3len, ← hjj, hbo]
          rfl)
        have HBB := Lib.hid (show bestK h v (t.map (·.xs)) T (M + 1).toNat ((M + 1).toNat ^ (t.map (·.xs)).length) = some i by rw [hbM, List.length_map, hc3len, ← hjj]; exact hbo)
        have HRD := Lib.hid (show Reads w5 w5.heap.size 1 (some ⟨g, 0, none⟩) m ((lst (M + 1).toNat m i).map (.int .i64)) by rw [hbM]; exact own_reads2 ho)
        clear hmt hme hjj hbo hj ho
        go_wp2
        go_ret2
        exact ⟨HB05.out, .inr ⟨HEE.out.symm, _, c, i, HBB.out, rfl, HRD.out⟩⟩
    | true =>
      obtain ⟨hjl, hbl⟩ := hmt rfl
      have hct := HBC4.out.grown HGR.out (fun e => (by have := Option.some.inj e; omega))
      rw [HM1.out] at hct
      have HC5 := Lib.hid (HC3.out.below HB35.out)
      have HCT := Lib.hid hct
      have HBL5 := Lib.hid hbl
      have hN5 : N < w5.heap.size := Blk.lt hbl
      have hC5 : N + 1 < w5.heap.size := hct.lt
      have hs5 := HGR.out.size
      have HJL := Lib.hid hjl
      have HSF := Lib.hid (show ∀ q, q < m → 0 ≤ (dg b (m - 1 - q) j : Int) ∧ (dg b (m - 1 - q) j : Int) ≤ 100 from fun q _ => by have := dg_lt (B := b) (e := m - 1 - q) (j := j) (by omega); omega)
      obtain ⟨s, hs⟩ : ∃ s, lsum b m j = s := ⟨_, rfl⟩
      have HS := Lib.hid (show sumN (fun q => (dg b (m - 1 - q) j : Int)) m = s by rw [← hs]; unfold lsum lst; exact sumN_congr fun q hq => (tabL_getD (fun q => (dg b (m - 1 - q) j : Int)) hq).symm)
      have HLS := Lib.hid hs
      obtain ⟨fb, hfb⟩ : ∃ fb, fitsK h v (t.map (·.xs)) T (tabL m fun q => (dg b (m - 1 - q) j : Int)) = fb := ⟨_, rfl⟩
      have HFB := Lib.hid hfb
      have x5 := hct.cell 1
      have HFL := Lib.hid (show fitsK h v (t.map (·.xs)) T (lst b (t.map (·.xs)).length j) = fb by rw [List.length_map, hc3len]; exact hfb)
      clear hmt hme hjl hbl hct hs hfb hbo hj
      cases bo with
      | none =>
        obtain ⟨rfl, rfl⟩ := hba
        go_wp2_with fail
        refine (csum_is (N + 1) N m _ (fun q => (dg b (m - 1 - q) j : Int)) [] HSF.out hm6.1 s HS.out _ HCT.out HBL5.out).mono ?_
        rintro e _ ⟨rfl, rfl⟩
        go_wp2_with fail
        refine (fitsc_is w.heap.size (w.heap.size + 1) (w.heap.size + 1 + 1) n m N A V B ch cv d h v t M T (fun q => (dg b (m - 1 - q) j : Int)) [] HHH.out HHV.out hm6.1 hn HSF.out HW.out fb HFB.out _ HC5.out HBL5.out).mono ?_
        rintro e w6 ⟨rfl, hb6⟩
        clear x5
        have HB56 := Lib.hid hb6
        have hs6 := hb6.size
        clear hb6
        cases fb with
        | false =>
          have hct9 := Blk.below HCT.out HB56.out hC5
          have hbl9 := Blk.below HBL5.out HB56.out hN5
          have HCT9 := Lib.hid hct9
          have HBL9 := Lib.hid hbl9
          have HBA9 := Lib.hid ((show BestAt w4.heap.size b m none (.slice none 0 0) (.int .i64 0) w6 from ⟨rfl, rfl⟩))
          have HBK9 := Lib.hid (best_nn HBO.out HFL.out)
          clear hct9 hbl9
          go_wp2_with fail
          refine (cnext_is (N + 1) N m b j [] hb1 hm6.1 HJL.out (by omega) _ HCT9.out HBL9.out).mono ?_
          rintro e w9 ⟨hg9, hpost⟩
          have HGR9 := Lib.hid ((HGR.out.trans (only_of_below (HB56.out.mono (Nat.le_refl _)) _)).trans hg9)
          have HBB9 := Lib.hid (HBA9.out.grown hg9 hNl)
          clear hg9
          rcases hpost with ⟨hjn, rfl, hbl⟩ | ⟨hjn, rfl⟩
          · have HBLN := Lib.hid hbl
            have HJN := Lib.hid hjn
            clear hbl hjn
            go_wp2
            go_roundw
            case rel => exact ⟨j + 1, true, _, rfl, Nat.le_of_lt HJN.out, fun _ => ⟨HJN.out, HBLN.out⟩, fun h => (by cases h), HGR9.out, HBK9.out, HBB9.out⟩
            case measure => exact jMs_lt hb1.1 HJL.out HBL5.out HJN.out HBLN.out
          · have HJN := Lib.hid hjn
            clear hjn
            go_wp2
            go_roundw
            case rel => exact ⟨j + 1, false, _, rfl, Nat.le_of_eq HJN.out, fun h => (by cases h), fun _ => HJN.out, HGR9.out, HBK9.out, HBB9.out⟩
            case measure => exact jMs_end
        | true =>
          have x6 := (Blk.below HCT.out HB56.out hC5).cell 1
          have y6 := (Blk.below HCT.out HB56.out hC5).lt
          go_wp2_with fail
          refine (clone6_any (some ⟨N, 0, none⟩) m m _ (lst b m j) _ (BlkL.reads (Blk.below HBL5.out HB56.out hN5)) (Nat.le_refl _) (by omega)).mono ?_
          rintro e w7 ⟨A7, c7, rfl, hb7, -, ho⟩
          clear x6 y6
          have ho7 := own_mono ho (Nat.le_trans hs5 hs6)
          have HB57 := Lib.hid (HB56.out.trans (hb7.mono hs6))
          obtain ⟨g7, ext7, rfl, -, -, -⟩ := own_block6 ho hm6.2
          have HO7 := Lib.hid ho7
          clear ho ho7 hb7
          have hct9 := Blk.below HCT.out HB57.out hC5
          have hbl9 := Blk.below HBL5.out HB57.out hN5
          have HCT9 := Lib.hid hct9
          have HBL9 := Lib.hid hbl9
          have HBA9 := Lib.hid ((show BestAt w4.heap.size b m (some j) (.slice (some ⟨g7, 0, none⟩) m c7) (.int .i64 s) w7 from ⟨g7, c7, rfl, by rw [HLS.out], HO7.out⟩))
          have HBK9 := Lib.hid (best_ny HBO.out HFL.out)
          clear hct9 hbl9
          go_wp2_with fail
          refine (cnext_is (N + 1) N m b j [] hb1 hm6.1 HJL.out (by omega) _ HCT9.out HBL9.out).mono ?_
          rintro e w9 ⟨hg9, hpost⟩
          have HGR9 := Lib.hid ((HGR.out.trans (only_of_below (HB57.out.mono (Nat.le_refl _)) _)).trans hg9)
          have HBB9 := Lib.hid (HBA9.out.grown hg9 hNl)
          clear hg9
          rcases hpost with ⟨hjn, rfl, hbl⟩ | ⟨hjn, rfl⟩
          · have HBLN := Lib.hid hbl
            have HJN := Lib.hid hjn
            clear hbl hjn
            go_wp2
            go_roundw
            case rel => exact ⟨j + 1, true, _, rfl, Nat.le_of_lt HJN.out, fun _ => ⟨HJN.out, HBLN.out⟩, fun h => (by cases h), HGR9.out, HBK9.out, HBB9.out⟩
            case measure => exact jMs_lt hb1.1 HJL.out HBL5.out HJN.out HBLN.out
          · have HJN := Lib.hid hjn
            clear hjn
            go_wp2
            go_roundw
            case rel => exact ⟨j + 1, false, _, rfl, Nat.le_of_eq HJN.out, fun h => (by cases h), fun _ => HJN.out, HGR9.out, HBK9.out, HBB9.out⟩
            case measure => exact jMs_end
      | some i =>
        obtain ⟨g, c, rfl, rfl, ho5⟩ := hba
        have HO5 := Lib.hid ho5
        obtain ⟨si, hsi⟩ : ∃ si, lsum b m i = si := ⟨_, rfl⟩
        have HSI := Lib.hid hsi
        rw [hsi]
        clear ho5 hsi
        go_wp2_with fail
        refine (csum_is (N + 1) N m _ (fun q => (dg b (m - 1 - q) j : Int)) [] HSF.out hm6.1 s HS.out _ HCT.out HBL5.out).mono ?_
        rintro e _ ⟨rfl, rfl⟩
        by_cases hlt : s < si
        · have hd : decide (s < si) = true := by simpa using hlt
          have HLT := Lib.hid (show lsum b (t.map (·.xs)).length j < lsum b (t.map (·.xs)).length i by rw [List.length_map, hc3len, HLS.out, HSI.out]; exact hlt)
          clear hlt
          go_wp2_with fail
          refine (fitsc_is w.heap.size (w.heap.size + 1) (w.heap.size + 1 + 1) n m N A V B ch cv d h v t M T (fun q => (dg b (m - 1 - q) j : Int)) [] HHH.out HHV.out hm6.1 hn HSF.out HW.out fb HFB.out _ HC5.out HBL5.out).mono ?_
          rintro e w6 ⟨rfl, hb6⟩
          clear x5
          have HB56 := Lib.hid hb6
          have hs6 := hb6.size
          clear hb6
          clear hd
          cases fb with
          | false =>
            have hct9 := Blk.below HCT.out HB56.out hC5
            have hbl9 := Blk.below HBL5.out HB56.out hN5
            have HCT9 := Lib.hid hct9
            have HBL9 := Lib.hid hbl9
            have HBA9 := Lib.hid ((show BestAt w4.heap.size b m (some i) (.slice (some ⟨g, 0, none⟩) m c) (.int .i64 si) w6 from ⟨g, c, rfl, by rw [HSI.out], own_below HO5.out HB56.out (Nat.le_refl _)⟩))
            have HBK9 := Lib.hid (best_sn HBO.out (fun h => by rw [HFL.out] at h; exact absurd h.2 (by decide)))
            clear hct9 hbl9
            go_wp2_with fail
            refine (cnext_is (N + 1) N m b j [] hb1 hm6.1 HJL.out (by omega) _ HCT9.out HBL9.out).mono ?_
            rintro e w9 ⟨hg9, hpost⟩
            have HGR9 := Lib.hid ((HGR.out.trans (only_of_below (HB56.out.mono (Nat.le_refl _)) _)).trans hg9)
            have HBB9 := Lib.hid (HBA9.out.grown hg9 hNl)
            clear hg9
            rcases hpost with ⟨hjn, rfl, hbl⟩ | ⟨hjn, rfl⟩
            · have HBLN := Lib.hid hbl
              have HJN := Lib.hid hjn
              clear hbl hjn
              go_wp2
              go_roundw
              case rel => exact ⟨j + 1, true, _, rfl, Nat.le_of_lt HJN.out, fun _ => ⟨HJN.out, HBLN.out⟩, fun h => (by cases h), HGR9.out, HBK9.out, HBB9.out⟩
              case measure => exact jMs_lt hb1.1 HJL.out HBL5.out HJN.out HBLN.out
            · have HJN := Lib.hid hjn
              clear hjn
              go_wp2
              go_roundw
              case rel => exact ⟨j + 1, false, _, rfl, Nat.le_of_eq HJN.out, fun h => (by cases h), fun _ => HJN.out, HGR9.out, HBK9.out, HBB9.out⟩
              case measure => exact jMs_end
          | true =>
            have x6 := (Blk.below HCT.out HB56.out hC5).cell 1
            have y6 := (Blk.below HCT.out HB56.out hC5).lt
            go_wp2_with fail
            refine (clone6_any (some ⟨N, 0, none⟩) m m _ (lst b m j) _ (BlkL.reads (Blk.below HBL5.out HB56.out hN5)) (Nat.le_refl _) (by omega)).mono ?_
            rintro e w7 ⟨A7, c7, rfl, hb7, -, ho⟩
            clear x6 y6
            have ho7 := own_mono ho (Nat.le_trans hs5 hs6)
            have HB57 := Lib.hid (HB56.out.trans (hb7.mono hs6))
            obtain ⟨g7, ext7, rfl, -, -, -⟩ := own_block6 ho hm6.2
            have HO7 := Lib.hid ho7
            clear ho ho7 hb7
            have hct9 := Blk.below HCT.out HB57.out hC5
            have hbl9 := Blk.below HBL5.out HB57.out hN5
            have HCT9 := Lib.hid hct9
            have HBL9 := Lib.hid hbl9
            have HBA9 := Lib.hid ((show BestAt w4.heap.size b m (some j) (.slice (some ⟨g7, 0, none⟩) m c7) (.int .i64 s) w7 from ⟨g7, c7, rfl, by rw [HLS.out], HO7.out⟩))
            have HBK9 := Lib.hid (best_sy HBO.out HLT.out HFL.out)
            clear hct9 hbl9
            go_wp2_with fail
            refine (cnext_is (N + 1) N m b j [] hb1 hm6.1 HJL.out (by omega) _ HCT9.out HBL9.out).mono ?_
            rintro e w9 ⟨hg9, hpost⟩
            have HGR9 := Lib.hid ((HGR.out.trans (only_of_below (HB57.out.mono (Nat.le_refl _)) _)).trans hg9)
            have HBB9 := Lib.hid (HBA9.out.grown hg9 hNl)
            clear hg9
            rcases hpost with ⟨hjn, rfl, hbl⟩ | ⟨hjn, rfl⟩
            · have HBLN := Lib.hid hbl
              have HJN := Lib.hid hjn
              clear hbl hjn
              go_wp2
              go_roundw
              case rel => exact ⟨j + 1, true, _, rfl, Nat.le_of_lt HJN.out, fun _ => ⟨HJN.out, HBLN.out⟩, fun h => (by cases h), HGR9.out, HBK9.out, HBB9.out⟩
              case measure => exact jMs_lt hb1.1 HJL.out HBL5.out HJN.out HBLN.out
            · have HJN := Lib.hid hjn
              clear hjn
              go_wp2
              go_roundw
              case rel => exact ⟨j + 1, false, _, rfl, Nat.le_of_eq HJN.out, fun h => (by cases h), fun _ => HJN.out, HGR9.out, HBK9.out, HBB9.out⟩
              case measure => exact jMs_end
        · have hd : decide (s < si) = false := by simpa using hlt
          have HLT := Lib.hid (show ¬ lsum b (t.map (·.xs)).length j < lsum b (t.map (·.xs)).length i by rw [List.length_map, hc3len, HLS.out, HSI.out]; exact hlt)
          have HB55 := Lib.hid (Below.refl w5.heap.size w5)
          clear hlt
          have hct9 := Blk.below HCT.out HB55.out hC5
          have hbl9 := Blk.below HBL5.out HB55.out hN5
          have HCT9 := Lib.hid hct9
          have HBL9 := Lib.hid hbl9
          have HBA9 := Lib.hid ((show BestAt w4.heap.size b m (some i) (.slice (some ⟨g, 0, none⟩) m c) (.int .i64 si) w5 from ⟨g, c, rfl, by rw [HSI.out], HO5.out⟩))
          have HBK9 := Lib.hid (best_sn HBO.out (fun h => HLT.out h.1))
          clear hct9 hbl9
          go_wp2_with fail
          refine (cnext_is (N + 1) N m b j [] hb1 hm6.1 HJL.out (by omega) _ HCT9.out HBL9.out).mono ?_
          rintro e w9 ⟨hg9, hpost⟩
          have HGR9 := Lib.hid ((HGR.out.trans (only_of_below (HB55.out.mono (Nat.le_refl _)) _)).trans hg9)
          have HBB9 := Lib.hid (HBA9.out.grown hg9 hNl)
          clear hg9
          rcases hpost with ⟨hjn, rfl, hbl⟩ | ⟨hjn, rfl⟩
          · have HBLN := Lib.hid hbl
            have HJN := Lib.hid hjn
            clear hbl hjn
            go_wp2
            go_roundw
            case rel => exact ⟨j + 1, true, _, rfl, Nat.le_of_lt HJN.out, fun _ => ⟨HJN.out, HBLN.out⟩, fun h => (by cases h), HGR9.out, HBK9.out, HBB9.out⟩
            case measure => exact jMs_lt hb1.1 HJL.out HBL5.out HJN.out HBLN.out
          · have HJN := Lib.hid hjn
            clear hjn
            go_wp2
            go_roundw
            case rel => exact ⟨j + 1, false, _, rfl, Nat.le_of_eq HJN.out, fun h => (by cases h), fun _ => HJN.out, HGR9.out, HBK9.out, HBB9.out⟩
            case measure => exact jMs_end
end Go.Proofs.Ytnepjgnnppfibaa

end
