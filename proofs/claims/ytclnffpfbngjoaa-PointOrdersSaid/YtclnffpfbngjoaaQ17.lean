import Derived.Test.YtclnffpfbngjoaaQ16
import Derived.Test.YtclnffpfbngjoaaQ11
import Derived.Test.YtclnffpfbngjoaaQ4
import Derived.Test.YtclnffpfbngjoaaQ2
import Derived.Laws.OwnMore

section
/- The contract of determinants of at most three columns. -/
namespace Go.Proofs.Ytclnffpfbngjoaa
open Go Go.RowKit

def In64 (x : Int) : Prop := -9223372036854775808 ≤ x ∧ x ≤ 9223372036854775807
def det2E (a b c d : Int) : Int := a * d - c * b
structure Det2In (a b c d : Int) : Prop where
  p1 : In64 (a * d)
  p2 : In64 (c * b)
  s : In64 (a * d - c * b)
def det3E (a00 a01 a02 a10 a11 a12 a20 a21 a22 : Int) : Int := a00 * (a11 * a22 - a21 * a12) - a10 * (a01 * a22 - a21 * a02) + a20 * (a01 * a12 - a11 * a02)
structure Det3In (a00 a01 a02 a10 a11 a12 a20 a21 a22 : Int) : Prop where
  p1 : In64 (a11 * a22)
  p2 : In64 (a21 * a12)
  s1 : In64 (a11 * a22 - a21 * a12)
  q1 : In64 (a00 * (a11 * a22 - a21 * a12))
  p3 : In64 (a01 * a22)
  p4 : In64 (a21 * a02)
  s2 : In64 (a01 * a22 - a21 * a02)
  q2 : In64 (a10 * (a01 * a22 - a21 * a02))
  p5 : In64 (a01 * a12)
  p6 : In64 (a11 * a02)
  s3 : In64 (a01 * a12 - a11 * a02)
  q3 : In64 (a20 * (a01 * a12 - a11 * a02))
  r1 : In64 (a00 * (a11 * a22 - a21 * a12) - a10 * (a01 * a22 - a21 * a02))
  r2 : In64 (det3E a00 a01 a02 a10 a11 a12 a20 a21 a22)
/-- The rows of a square matrix of at most three rows. -/
inductive Sq : List (List Int) → Int → Prop
  | one (a : Int) : Sq [[a]] a
  | two (a b c d : Int) : Det2In a b c d → Sq [[a, b], [c, d]] (det2E a b c d)
  | three (a00 a01 a02 a10 a11 a12 a20 a21 a22 : Int) : Det3In a00 a01 a02 a10 a11 a12 a20 a21 a22 → Sq [[a00, a01, a02], [a10, a11, a12], [a20, a21, a22]] (det3E a00 a01 a02 a10 a11 a12 a20 a21 a22)

theorem rowT_cells {w : World} {N : Nat} {r : TRow} {xs : List Int} (hr : Reads w N 1 r.A r.n (r.xs.map (.int .i64))) (hx : r.xs = xs) (h : xs ≠ []) : ∃ b o, r.A = some ⟨b, o, none⟩ ∧ r.n = xs.length ∧ ∀ j z, xs[j]? = some z → w.cell? ⟨b, o + j, none⟩ = some (.int .i64 z) := by
  subst hx
  have hl := hr.ilen
  have hp : 0 < r.xs.length := List.length_pos_iff.2 h
  obtain ⟨b, o, e, hb, hc⟩ := hr.2 (by omega)
  exact ⟨b, o, e, hl.symm, fun j z hz => hc j _ (by rw [List.getElem?_map, hz]; rfl)⟩

set_option maxRecDepth 100000 in
set_option maxHeartbeats 8000000 in
theorem pdet_is (A : Option Addr) (n c : Nat) (t : List TRow) (D : Int) (hD : Sq (t.map TRow.xs) D) (w : World) (hx : ReadsT w w.heap.size A n t) :
    Calls Try.prog 31 #[.slice A n c] w fun e w' => e = .returned (.int .i64 D) ∧ Below w.heap.size w w' := by
  have hl := hx.len
  generalize hM : t.map TRow.xs = M at hD
  have hlM : M.length = n := by rw [← hM, List.length_map, hl]
  cases hD with
  | one =>
    obtain rfl : n = 1 := by simpa using hlM.symm
    obtain ⟨r0, rfl⟩ : ∃ r0, t = [r0] := by
      cases t with
      | nil => simp at hl
      | cons a t => cases t with
        | nil => exact ⟨a, rfl⟩
        | cons b t => simp at hl
    simp only [List.map_cons, List.map_nil, List.cons.injEq, and_true] at hM
    obtain ⟨zb, zo, r, rfl, hzb, hr, c0, -, -, hrr⟩ := hx.at_ (i := 0) (by omega)
    obtain rfl : r0 = r := by simpa using hr
    obtain ⟨b, o, hA, hn, hc⟩ := rowT_cells hrr hM (by simp)
    rw [hA, hn] at c0
    have d0 := hc 0 _ rfl
    simp only [Nat.add_zero, List.length_cons, List.length_nil, Nat.zero_add] at c0 d0
    clear hx hM hr hrr hA hn hc hl hlM
    go_enter Try.func31, Try.ntmps31
    go_wp2
    go_ret
    exact ⟨rfl, Below.refl _ _⟩
  | two a b c' d h =>
    obtain rfl : n = 2 := by simpa using hlM.symm
    obtain ⟨r0, r1, rfl⟩ : ∃ r0 r1, t = [r0, r1] := by
      match t, hl with
      | [x, y], _ => exact ⟨x, y, rfl⟩
    simp only [List.map_cons, List.map_nil, List.cons.injEq, and_true] at hM
    obtain ⟨hM0, hM1⟩ := hM
    obtain ⟨zb, zo, r, rfl, hzb, hr, c0, -, -, hrr0⟩ := hx.at_ (i := 0) (by omega)
    obtain rfl : r0 = r := by simpa using hr
    obtain ⟨yb, yo, r, hA', -, hr', c1, -, -, hrr1⟩ := hx.at_ (i := 1) (by omega)
    obtain rfl : r1 = r := by simpa using hr'
    obtain ⟨rfl, rfl⟩ : zb = yb ∧ zo = yo := by simpa using hA'
    obtain ⟨b0, o0, hA0, hn0, hc0⟩ := rowT_cells hrr0 hM0 (by simp)
    obtain ⟨b1, o1, hA1, hn1, hc1⟩ := rowT_cells hrr1 hM1 (by simp)
    rw [hA0, hn0] at c0
    rw [hA1, hn1] at c1
    have d00 := hc0 0 _ rfl
    have d01 := hc0 1 _ rfl
    have d10 := hc1 0 _ rfl
    have d11 := hc1 1 _ rfl
    simp only [Nat.add_zero, List.length_cons, List.length_nil, Nat.zero_add] at c0 c1 d00 d01 d10 d11
    have v1 := IntWalk.i64_in (a * d) h.p1
    have v2 := IntWalk.i64_in (c' * b) h.p2
    have v3 := IntWalk.i64_in (a * d - c' * b) h.s
    clear hx hM0 hM1 hr hr' hrr0 hrr1 hA0 hA1 hn0 hn1 hc0 hc1 hl hlM h hA'
    go_enter Try.func31, Try.ntmps31
    go_wp2
    go_quiet (fail)
    go_wp2
    go_ret
    exact ⟨rfl, below_drewN (Below.refl _ _) _⟩
  | three a00 a01 a02 a10 a11 a12 a20 a21 a22 h =>
    obtain rfl : n = 3 := by simpa using hlM.symm
    obtain ⟨r0, r1, r2, rfl⟩ : ∃ r0 r1 r2, t = [r0, r1, r2] := by
      match t, hl with
      | [x, y, z], _ => exact ⟨x, y, z, rfl⟩
    simp only [List.map_cons, List.map_nil, List.cons.injEq, and_true] at hM
    obtain ⟨hM0, hM1, hM2⟩ := hM
    obtain ⟨zb, zo, r, rfl, hzb, hr, c0, -, -, hrr0⟩ := hx.at_ (i := 0) (by omega)
    obtain rfl : r0 = r := by simpa using hr
    obtain ⟨yb, yo, r, hA', -, hr', c1, -, -, hrr1⟩ := hx.at_ (i := 1) (by omega)
    obtain rfl : r1 = r := by simpa using hr'
    obtain ⟨rfl, rfl⟩ : zb = yb ∧ zo = yo := by simpa using hA'
    obtain ⟨yb, yo, r, hA'', -, hr'', c2, -, -, hrr2⟩ := hx.at_ (i := 2) (by omega)
    obtain rfl : r2 = r := by simpa using hr''
    obtain ⟨rfl, rfl⟩ : zb = yb ∧ zo = yo := by simpa using hA''
    obtain ⟨b0, o0, hA0, hn0, hc0⟩ := rowT_cells hrr0 hM0 (by simp)
    obtain ⟨b1, o1, hA1, hn1, hc1⟩ := rowT_cells hrr1 hM1 (by simp)
    obtain ⟨b2, o2, hA2, hn2, hc2⟩ := rowT_cells hrr2 hM2 (by simp)
    rw [hA0, hn0] at c0
    rw [hA1, hn1] at c1
    rw [hA2, hn2] at c2
    have d00 := hc0 0 _ rfl
    have d01 := hc0 1 _ rfl
    have d02 := hc0 2 _ rfl
    have d10 := hc1 0 _ rfl
    have d11 := hc1 1 _ rfl
    have d12 := hc1 2 _ rfl
    have d20 := hc2 0 _ rfl
    have d21 := hc2 1 _ rfl
    have d22 := hc2 2 _ rfl
    simp only [Nat.add_zero, List.length_cons, List.length_nil, Nat.zero_add, Nat.reduceAdd] at c0 c1 c2 d00 d01 d02 d10 d11 d12 d20 d21 d22
    have v1 := IntWalk.i64_in _ h.p1
    have v2 := IntWalk.i64_in _ h.p2
    have v3 := IntWalk.i64_in _ h.s1
    have v4 := IntWalk.i64_in _ h.q1
    have v5 := IntWalk.i64_in _ h.p3
    have v6 := IntWalk.i64_in _ h.p4
    have v7 := IntWalk.i64_in _ h.s2
    have v8 := IntWalk.i64_in _ h.q2
    have v9 := IntWalk.i64_in _ h.p5
    have v10 := IntWalk.i64_in _ h.p6
    have v11 := IntWalk.i64_in _ h.s3
    have v12 := IntWalk.i64_in _ h.q3
    have v13 := IntWalk.i64_in _ h.r1
    have v14 := IntWalk.i64_in _ h.r2
    unfold det3E at v14
    clear hx hM0 hM1 hM2 hr hr' hr'' hrr0 hrr1 hrr2 hA0 hA1 hA2 hn0 hn1 hn2 hc0 hc1 hc2 hl hlM h hA' hA''
    go_enter Try.func31, Try.ntmps31
    go_wp2
    go_quiet (fail)
    go_wp2
    go_ret
    exact ⟨rfl, below_drewN (Below.refl _ _) _⟩

end Go.Proofs.Ytclnffpfbngjoaa

end

section
/- The plain law of the normal equations: sums, bounds, determinants, the common divisor. -/
namespace Go.Proofs.Ytclnffpfbngjoaa
open Go Go.RowKit

def shp (s : Star) (i : Nat) : Int := s.xs.getD i 0
/-- Sums over the first stars. -/
def nrmTo (l : List Star) (q i k : Nat) : Int := ((l.take q).map fun s => shp s i * shp s k).sum
def rgtTo (l : List Star) (q i : Nat) : Int := ((l.take q).map fun s => shp s i * s.er).sum
theorem nrmTo_succ {l : List Star} {q i k : Nat} {s : Star} (h : l[q]? = some s) : nrmTo l (q + 1) i k = nrmTo l q i k + shp s i * shp s k := by
  unfold nrmTo
  rw [List.take_add_one, h]
  simp
theorem rgtTo_succ {l : List Star} {q i : Nat} {s : Star} (h : l[q]? = some s) : rgtTo l (q + 1) i = rgtTo l q i + shp s i * s.er := by
  unfold rgtTo
  rw [List.take_add_one, h]
  simp
theorem mulb {x y a b : Int} (hx : -a ≤ x ∧ x ≤ a) (hy : -b ≤ y ∧ y ≤ b) (ha : 0 ≤ a) (hb : 0 ≤ b) : -(a * b) ≤ x * y ∧ x * y ≤ a * b := by
  have h1 : x.natAbs ≤ a.natAbs := by omega
  have h2 : y.natAbs ≤ b.natAbs := by omega
  have h3 : (x * y).natAbs ≤ (a * b).natAbs := by rw [Int.natAbs_mul, Int.natAbs_mul]; exact Nat.mul_le_mul h1 h2
  have h4 : 0 ≤ a * b := Int.mul_nonneg ha hb
  omega
theorem shp_in {n : Nat} {s : Star} (h : starErr n s = 0) (i : Nat) : -100 ≤ shp s i ∧ shp s i ≤ 100 := by
  obtain ⟨-, -, -, h4, -⟩ := star_right h
  unfold shp
  rw [List.getD_eq_getElem?_getD]
  cases hx : s.xs[i]? with
  | none => simp
  | some z => exact h4 z (List.mem_of_getElem? hx)
theorem sum_in (b : Int) (hb : 0 ≤ b) : ∀ (L : List Int), (∀ z ∈ L, -b ≤ z ∧ z ≤ b) → -(b * L.length) ≤ L.sum ∧ L.sum ≤ b * L.length
  | [], _ => by simp
  | x :: r, h => by
    have h1 := h x (by simp)
    have h2 := sum_in b hb r fun z hz => h z (List.mem_cons_of_mem _ hz)
    simp only [List.sum_cons, List.length_cons]
    have : b * ((r.length + 1 : Nat) : Int) = b * r.length + b := by push_cast; rw [Int.mul_add, Int.mul_one]
    omega
theorem nrm_in {l : List Star} {n : Nat} (h : ∀ s ∈ l, starErr n s = 0) (q i k : Nat) : -(10000 * (q : Int)) ≤ nrmTo l q i k ∧ nrmTo l q i k ≤ 10000 * (q : Int) := by
  have h1 := sum_in 10000 (by decide) ((l.take q).map fun s => shp s i * shp s k) fun z hz => by
    obtain ⟨s, hs, rfl⟩ := List.mem_map.1 hz
    have hs := List.mem_of_mem_take hs
    have := mulb (shp_in (h s hs) i) (shp_in (h s hs) k) (by decide) (by decide)
    omega
  have h2 : (l.take q).length ≤ q := List.length_take_le _ _
  unfold nrmTo
  rw [List.length_map] at h1
  omega
theorem rgt_in {l : List Star} {n : Nat} (h : ∀ s ∈ l, starErr n s = 0) (q i : Nat) : -(100000 * (q : Int)) ≤ rgtTo l q i ∧ rgtTo l q i ≤ 100000 * (q : Int) := by
  have h1 := sum_in 100000 (by decide) ((l.take q).map fun s => shp s i * s.er) fun z hz => by
    obtain ⟨s, hs, rfl⟩ := List.mem_map.1 hz
    have hs := List.mem_of_mem_take hs
    obtain ⟨-, -, -, -, e1, e2⟩ := star_right (h s hs)
    have := mulb (shp_in (h s hs) i) (show -1000 ≤ s.er ∧ s.er ≤ 1000 from ⟨e1, e2⟩) (by decide) (by decide)
    omega
  have h2 : (l.take q).length ≤ q := List.length_take_le _ _
  unfold rgtTo
  rw [List.length_map] at h1
  omega

/-- The columns of the normal equations, and the right side. -/
def colL (l : List Star) (N i : Nat) : List Int := (List.range N).map (nrmTo l l.length i)
def fitM (l : List Star) (N : Nat) : List (List Int) := (List.range N).map (colL l N)
def rgtL (l : List Star) (N : Nat) : List Int := (List.range N).map (rgtTo l l.length)
def detM : List (List Int) → Int
  | [[a]] => a
  | [[a, b], [c, d]] => det2E a b c d
  | [[a00, a01, a02], [a10, a11, a12], [a20, a21, a22]] => det3E a00 a01 a02 a10 a11 a12 a20 a21 a22
  | _ => 0

def InB (b x : Int) : Prop := -b ≤ x ∧ x ≤ b
theorem det2_in {a b c d B0 B1 : Int} (ha : InB B0 a) (hb : InB B0 b) (hc : InB B1 c) (hd : InB B1 d) (h0 : 0 ≤ B0) (h1 : 0 ≤ B1) (hB : B0 * B1 ≤ 1000000000000) : Det2In a b c d := by
  have p1 := mulb ha hd h0 h1
  have p2 := mulb hc hb h1 h0
  rw [Int.mul_comm B1 B0] at p2
  exact ⟨⟨by omega, by omega⟩, ⟨by omega, by omega⟩, ⟨by omega, by omega⟩⟩
theorem sub_in {x y b : Int} (hx : -b ≤ x ∧ x ≤ b) (hy : -b ≤ y ∧ y ≤ b) : -(2 * b) ≤ x - y ∧ x - y ≤ 2 * b := by omega
theorem det3_in {a00 a01 a02 a10 a11 a12 a20 a21 a22 B0 B1 B2 : Int} (h00 : InB B0 a00) (h01 : InB B0 a01) (h02 : InB B0 a02) (h10 : InB B1 a10) (h11 : InB B1 a11) (h12 : InB B1 a12) (h20 : InB B2 a20) (h21 : InB B2 a21) (h22 : InB B2 a22)
    (n0 : 0 ≤ B0) (n1 : 0 ≤ B1) (n2 : 0 ≤ B2) (m01 : B0 * B1 ≤ 1000000000000) (m02 : B0 * B2 ≤ 1000000000000) (m12 : B1 * B2 ≤ 1000000000000) (k0 : B0 * (2 * (B1 * B2)) ≤ 1000000000000000000) (k1 : B1 * (2 * (B0 * B2)) ≤ 1000000000000000000) (k2 : B2 * (2 * (B0 * B1)) ≤ 1000000000000000000) :
    Det3In a00 a01 a02 a10 a11 a12 a20 a21 a22 ∧ InB 3000000000000000000 (det3E a00 a01 a02 a10 a11 a12 a20 a21 a22) := by
  have z12 : 0 ≤ B1 * B2 := Int.mul_nonneg n1 n2
  have z02 : 0 ≤ B0 * B2 := Int.mul_nonneg n0 n2
  have z01 : 0 ≤ B0 * B1 := Int.mul_nonneg n0 n1
  have p1 := mulb h11 h22 n1 n2
  have p2 := mulb h21 h12 n2 n1
  have p3 := mulb h01 h22 n0 n2
  have p4 := mulb h21 h02 n2 n0
  have p5 := mulb h01 h12 n0 n1
  have p6 := mulb h11 h02 n1 n0
  rw [Int.mul_comm B2 B1] at p2
  rw [Int.mul_comm B2 B0] at p4
  rw [Int.mul_comm B1 B0] at p6
  have s1 := sub_in p1 p2
  have s2 := sub_in p3 p4
  have s3 := sub_in p5 p6
  have q1 := mulb h00 s1 n0 (by omega)
  have q2 := mulb h10 s2 n1 (by omega)
  have q3 := mulb h20 s3 n2 (by omega)
  unfold det3E
  refine ⟨⟨⟨by omega, by omega⟩, ⟨by omega, by omega⟩, ⟨by omega, by omega⟩, ⟨by omega, by omega⟩, ⟨by omega, by omega⟩, ⟨by omega, by omega⟩, ⟨by omega, by omega⟩, ⟨by omega, by omega⟩, ⟨by omega, by omega⟩, ⟨by omega, by omega⟩, ⟨by omega, by omega⟩, ⟨by omega, by omega⟩, ⟨by omega, by omega⟩, ⟨by unfold det3E; omega, by unfold det3E; omega⟩⟩, by omega, by omega⟩

/-- The three (or fewer) rows are bounded by B0, B1, B2. -/
theorem sq_three {M : List (List Int)} {B : Nat → Int} (hl : M.length = 3) (hr : ∀ r ∈ M, r.length = 3) (hb : ∀ (i j : Nat) r z, M[i]? = some r → r[j]? = some z → InB (B i) z)
    (n0 : 0 ≤ B 0) (n1 : 0 ≤ B 1) (n2 : 0 ≤ B 2) (m01 : B 0 * B 1 ≤ 1000000000000) (m02 : B 0 * B 2 ≤ 1000000000000) (m12 : B 1 * B 2 ≤ 1000000000000) (k0 : B 0 * (2 * (B 1 * B 2)) ≤ 1000000000000000000) (k1 : B 1 * (2 * (B 0 * B 2)) ≤ 1000000000000000000) (k2 : B 2 * (2 * (B 0 * B 1)) ≤ 1000000000000000000) :
    Sq M (detM M) ∧ InB 3000000000000000000 (detM M) := by
  match M, hl with
  | [r0, r1, r2], _ =>
    have l0 := hr r0 (by simp)
    have l1 := hr r1 (by simp)
    have l2 := hr r2 (by simp)
    match r0, l0 with
    | [a00, a01, a02], _ =>
      match r1, l1 with
      | [a10, a11, a12], _ =>
        match r2, l2 with
        | [a20, a21, a22], _ =>
          have h := det3_in (hb 0 0 _ a00 rfl rfl) (hb 0 1 _ a01 rfl rfl) (hb 0 2 _ a02 rfl rfl) (hb 1 0 _ a10 rfl rfl) (hb 1 1 _ a11 rfl rfl) (hb 1 2 _ a12 rfl rfl) (hb 2 0 _ a20 rfl rfl) (hb 2 1 _ a21 rfl rfl) (hb 2 2 _ a22 rfl rfl) n0 n1 n2 m01 m02 m12 k0 k1 k2
          exact ⟨Sq.three _ _ _ _ _ _ _ _ _ h.1, h.2⟩
theorem sq_two {M : List (List Int)} {B : Nat → Int} (hl : M.length = 2) (hr : ∀ r ∈ M, r.length = 2) (hb : ∀ (i j : Nat) r z, M[i]? = some r → r[j]? = some z → InB (B i) z) (n0 : 0 ≤ B 0) (n1 : 0 ≤ B 1) (m01 : B 0 * B 1 ≤ 1000000000000) :
    Sq M (detM M) ∧ InB 3000000000000000000 (detM M) := by
  match M, hl with
  | [r0, r1], _ =>
    have l0 := hr r0 (by simp)
    have l1 := hr r1 (by simp)
    match r0, l0 with
    | [a, b], _ =>
      match r1, l1 with
      | [c, d], _ =>
        have ha := hb 0 0 _ a rfl rfl
        have hb' := hb 0 1 _ b rfl rfl
        have hc := hb 1 0 _ c rfl rfl
        have hd := hb 1 1 _ d rfl rfl
        have p1 := mulb ha hd n0 n1
        have p2 := mulb hc hb' n1 n0
        rw [Int.mul_comm (B 1) (B 0)] at p2
        refine ⟨Sq.two _ _ _ _ (det2_in ha hb' hc hd n0 n1 m01), ?_⟩
        show InB _ (det2E a b c d)
        unfold InB det2E
        exact ⟨by omega, by omega⟩
theorem sq_one {M : List (List Int)} (hl : M.length = 1) (hr : ∀ r ∈ M, r.length = 1) (hb : ∀ (i j : Nat) r z, M[i]? = some r → r[j]? = some z → InB 2000000 z) : Sq M (detM M) ∧ InB 3000000000000000000 (detM M) := by
  match M, hl with
  | [r0], _ =>
    have l0 := hr r0 (by simp)
    match r0, l0 with
    | [a], _ =>
      have ha := hb 0 0 _ a rfl rfl
      refine ⟨Sq.one a, ?_⟩
      show InB _ a
      unfold InB at ha ⊢
      omega
/-- One row, number p, may be larger than the others. -/
theorem sq_of {M : List (List Int)} {N p : Nat} (h1 : 1 ≤ N) (h3 : N ≤ 3) (hl : M.length = N) (hr : ∀ r ∈ M, r.length = N) (hb : ∀ (i j : Nat) r z, M[i]? = some r → r[j]? = some z → InB (if i = p then 2000000 else 200000) z) : Sq M (detM M) ∧ InB 3000000000000000000 (detM M) := by
  have key : ∀ i, (if i = p then (2000000 : Int) else 200000) = 2000000 ∨ (if i = p then (2000000 : Int) else 200000) = 200000 := fun i => by split <;> simp
  rcases (show N = 1 ∨ N = 2 ∨ N = 3 by omega) with rfl | rfl | rfl
  · exact sq_one hl hr fun i j r z e1 e2 => by have := hb i j r z e1 e2; unfold InB at this ⊢; split at this <;> omega
  · refine sq_two (B := fun i => if i = p then 2000000 else 200000) hl hr hb ?_ ?_ ?_
    · split <;> omega
    · split <;> omega
    · split <;> split <;> omega
  · have hpp : ∀ q : Nat, q = p → True := fun _ _ => trivial
    refine sq_three (B := fun i => if i = p then 2000000 else 200000) hl hr hb ?_ ?_ ?_ ?_ ?_ ?_ ?_ ?_ ?_
    all_goals
      rcases (show p = 0 ∨ p = 1 ∨ p = 2 ∨ 3 ≤ p by omega) with e | e | e | e
      · subst e; simp
      · subst e; simp
      · subst e; simp
      · rw [if_neg (by omega)]
        first | (rw [if_neg (by omega)]; first | (rw [if_neg (by omega)]; omega) | omega) | omega

/-- The greatest common divisor of a number and some more. -/
def gcdF (d : Int) : List Int → Int
  | [] => d
  | z :: r => gcdF (Int.gcd d z : Int) r
theorem gcdF_snoc (z : Int) : ∀ (l : List Int) (d : Int), gcdF d (l ++ [z]) = (Int.gcd (gcdF d l) z : Int)
  | [], _ => rfl
  | _ :: r, _ => gcdF_snoc z r _
theorem gcdF_dvd : ∀ (l : List Int) (d : Int), gcdF d l ∣ d ∧ ∀ z ∈ l, gcdF d l ∣ z
  | [], d => ⟨Int.dvd_refl d, by simp⟩
  | z :: r, d => by
    obtain ⟨h1, h2⟩ := gcdF_dvd r (Int.gcd d z : Int)
    refine ⟨Int.dvd_trans h1 (Int.gcd_dvd_left d z), fun x hx => ?_⟩
    rcases List.mem_cons.1 hx with rfl | hx
    · exact Int.dvd_trans h1 (Int.gcd_dvd_right d x)
    · exact h2 x hx
theorem gcdF_pos : ∀ (l : List Int) (d : Int), d ≠ 0 → l ≠ [] → 1 ≤ gcdF d l
  | [], _, _, h => absurd rfl h
  | [z], d, h, _ => by have := Int.gcd_pos_of_ne_zero_left z h; show (1 : Int) ≤ (Int.gcd d z : Int); omega
  | z :: y :: r, d, h, _ => gcdF_pos (y :: r) _ (by have := Int.gcd_pos_of_ne_zero_left z h; omega) (by simp)

/-- The terms of the best model, before they are taken into lowest terms. -/
def fitT (l : List Star) (N : Nat) : List Int := (List.range N).map fun i => detM ((fitM l N).set i (rgtL l N))
def fitG (l : List Star) (N : Nat) : Int := gcdF (detM (fitM l N)) (fitT l N)
/-- The best model of right stars: terms, denominator, error. -/
def fitF (l : List Star) : (List Int × Int) × Int :=
  if detM (fitM l (termsN l)) = 0 then (([], 0), 11)
  else if smallL 1000000000000 (detM (fitM l (termsN l)) / fitG l (termsN l) :: (fitT l (termsN l)).map (· / fitG l (termsN l))) = false then (([], 0), 8)
  else (((fitT l (termsN l)).map (· / fitG l (termsN l)), detM (fitM l (termsN l)) / fitG l (termsN l)), 0)

theorem colL_len (l : List Star) (N i : Nat) : (colL l N i).length = N := by simp [colL]
theorem fitM_len (l : List Star) (N : Nat) : (fitM l N).length = N := by simp [fitM]
theorem fitM_row {l : List Star} {N i : Nat} {r : List Int} (h : (fitM l N)[i]? = some r) : i < N ∧ r = colL l N i := by
  unfold fitM at h
  rw [List.getElem?_map] at h
  by_cases hi : i < N
  · simp [hi] at h; exact ⟨hi, h.symm⟩
  · have : (List.range N)[i]? = none := by rw [List.getElem?_eq_none]; simp; omega
    rw [this] at h; cases h
theorem colL_at {l : List Star} {N i j : Nat} {z : Int} (h : (colL l N i)[j]? = some z) : j < N ∧ z = nrmTo l l.length i j := by
  unfold colL at h
  rw [List.getElem?_map] at h
  by_cases hj : j < N
  · simp [hj] at h; exact ⟨hj, h.symm⟩
  · have : (List.range N)[j]? = none := by rw [List.getElem?_eq_none]; simp; omega
    rw [this] at h; cases h
theorem rgtL_at {l : List Star} {N j : Nat} {z : Int} (h : (rgtL l N)[j]? = some z) : j < N ∧ z = rgtTo l l.length j := by
  unfold rgtL at h
  rw [List.getElem?_map] at h
  by_cases hj : j < N
  · simp [hj] at h; exact ⟨hj, h.symm⟩
  · have : (List.range N)[j]? = none := by rw [List.getElem?_eq_none]; simp; omega
    rw [this] at h; cases h
theorem fit_det {l : List Star} {N : Nat} (h1 : 1 ≤ N) (h3 : N ≤ 3) (hl : l.length ≤ 20) (h : ∀ s ∈ l, starErr N s = 0) : Sq (fitM l N) (detM (fitM l N)) ∧ InB 3000000000000000000 (detM (fitM l N)) := by
  refine sq_of (p := 7) h1 h3 (fitM_len l N) (fun r hr => ?_) fun i j r z hr hz => ?_
  · obtain ⟨i, hi⟩ := List.getElem?_of_mem hr
    rw [(fitM_row hi).2]; exact colL_len _ _ _
  · obtain ⟨hi, rfl⟩ := fitM_row hr
    obtain ⟨hj, rfl⟩ := colL_at hz
    have := nrm_in h l.length i j
    rw [if_neg (by omega)]
    unfold InB
    omega
theorem fit_det_at {l : List Star} {N p : Nat} (h1 : 1 ≤ N) (h3 : N ≤ 3) (hl : l.length ≤ 20) (h : ∀ s ∈ l, starErr N s = 0) : Sq ((fitM l N).set p (rgtL l N)) (detM ((fitM l N).set p (rgtL l N))) ∧ InB 3000000000000000000 (detM ((fitM l N).set p (rgtL l N))) := by
  refine sq_of (p := p) h1 h3 (by rw [List.length_set]; exact fitM_len l N) (fun r hr => ?_) fun i j r z hr hz => ?_
  · rcases List.mem_or_eq_of_mem_set hr with hr | rfl
    · obtain ⟨i, hi⟩ := List.getElem?_of_mem hr
      rw [(fitM_row hi).2]; exact colL_len _ _ _
    · simp [rgtL]
  · rw [List.getElem?_set] at hr
    by_cases hip : p = i
    · subst hip
      rw [if_pos rfl] at hr
      split at hr
      · cases hr
        obtain ⟨hj, rfl⟩ := rgtL_at hz
        have := rgt_in h l.length j
        rw [if_pos rfl]
        unfold InB
        omega
      · cases hr
    · rw [if_neg hip] at hr
      obtain ⟨hi, rfl⟩ := fitM_row hr
      obtain ⟨hj, rfl⟩ := colL_at hz
      have := nrm_in h l.length i j
      rw [if_neg (fun e => hip e.symm)]
      unfold InB
      omega

end Go.Proofs.Ytclnffpfbngjoaa

end

section
/- What a piece of a walk leaves as it was: all blocks but some; rows of cells given by a function. -/
namespace Go.Proofs.Ytclnffpfbngjoaa
open Go.RowKit

/-- All that was there, apart from the blocks of X, is as it was. -/
structure Tch (X : Nat → Prop) (w w' : World) : Prop where
  os : w'.os = w.os
  tape : w'.tape = w.tape
  output : w'.output = w.output
  size : w.heap.size ≤ w'.heap.size
  block : ∀ i, i < w.heap.size → ¬ X i → w'.heap[i]? = w.heap[i]?
section
variable {X Y : Nat → Prop} {w w' w'' : World}
theorem Tch.refl (X : Nat → Prop) (w : World) : Tch X w w := ⟨rfl, rfl, rfl, Nat.le_refl _, fun _ _ _ => rfl⟩
theorem Tch.trans (h : Tch X w w') (k : Tch X w' w'') : Tch X w w'' := ⟨k.os.trans h.os, k.tape.trans h.tape, k.output.trans h.output, Nat.le_trans h.size k.size, fun i hi hx => (k.block i (Nat.lt_of_lt_of_le hi h.size) hx).trans (h.block i hi hx)⟩
theorem Tch.mono (h : Tch X w w') (hs : ∀ i, i < w.heap.size → X i → Y i) : Tch Y w w' := ⟨h.os, h.tape, h.output, h.size, fun i hi hy => h.block i hi fun hx => hy (hs i hi hx)⟩
theorem Tch.then_ (h : Tch X w w') (k : Tch Y w' w'') (hs : ∀ i, i < w.heap.size → Y i → X i) : Tch X w w'' := ⟨k.os.trans h.os, k.tape.trans h.tape, k.output.trans h.output, Nat.le_trans h.size k.size, fun i hi hx => (k.block i (Nat.lt_of_lt_of_le hi h.size) fun hy => hx (hs i hi hy)).trans (h.block i hi hx)⟩
theorem Tch.of_below (h : Below w.heap.size w w') : Tch X w w' := ⟨h.os, h.tape, h.output, h.size, fun i hi _ => h.block i hi⟩
theorem Tch.call (h : Tch X w w') (k : Below w'.heap.size w' w'') : Tch X w w'' := h.trans (Tch.of_below k)
theorem Tch.alloc (h : Tch X w w') (o : Obj) : Tch X w (w'.alloc o) := h.call ((Below.refl _ _).alloc (Nat.le_refl _) _)
theorem Tch.drewN (h : Tch X w w') (n : Nat) : Tch X w (w'.drewN n) := h.call (below_drewN (Below.refl _ _) n)
theorem Tch.drew (h : Tch X w w') : Tch X w w'.drew := ⟨h.os, h.tape, h.output, h.size, h.block⟩
theorem Tch.setCell (h : Tch X w w') {p : Addr} (hp : X p.block ∨ w.heap.size ≤ p.block) (u : Value) : Tch X w (w'.setCell p u) :=
  ⟨h.os, h.tape, h.output, by simpa [World.setCell] using h.size, fun i hi hx => (Below.heap_setCell w' p u i (by rintro rfl; rcases hp with hp | hp; exact hx hp; omega)).trans (h.block i hi hx)⟩
theorem Tch.blk (h : Tch X w w') {q : Nat} {t : TypeId} {cs : Array Value} (hq : Blk w q t cs) (hx : ¬ X q) : Blk w' q t cs := (h.block q hq.lt hx).trans hq
theorem Tch.below {B : Nat} (h : Tch X w w') (hx : ∀ q, X q → B ≤ q) (hB : B ≤ w.heap.size) : Below B w w' := ⟨h.os, h.tape, h.output, h.size, fun i hi => h.block i (by omega) fun hxi => by have := hx i hxi; omega⟩
theorem Tch.own (h : Tch X w w') {base n size : Nat} {e : TypeId} {v : Value} {xs : List Value} (ho : w.ownsRow base e size v n xs) (hx : ∀ q, v.ownBlock = some q → ¬ X q) : w'.ownsRow base e size v n xs :=
  own_same ho fun q hq => h.block q (own_lt ho hq).2 (hx q hq)
theorem Tch.grown (h : Tch X w w') {row : Option Nat} (hg : w'.grownBy w'' row) (hx : ∀ q, row = some q → X q ∨ w.heap.size ≤ q) : Tch X w w'' :=
  ⟨hg.os.trans h.os, hg.tape.trans h.tape, hg.output.trans h.output, Nat.le_trans h.size hg.size, fun i hi hxi => (hg.block i (Nat.lt_of_lt_of_le hi h.size) (fun e => by rcases hx i e.symm with k | k; exact hxi k; omega)).trans (h.block i hi hxi)⟩
end

/-- A block of n cells, told by a function. -/
def RB (w : World) (g : Nat) (t : TypeId) (n : Nat) (f : Nat → Value) : Prop := Blk w g t ((List.range n).map f).toArray
section
variable {w w' : World} {g n : Nat} {t : TypeId} {f f' : Nat → Value}
theorem RB.lt (h : RB w g t n f) : g < w.heap.size := Blk.lt h
theorem RB.cell (h : RB w g t n f) {k : Nat} (hk : k < n) : w.cell? ⟨g, k, none⟩ = some (f k) := by
  rw [Blk.cell h k]
  simp [hk]
theorem RB.frozen (h : RB w g t n f) (k : Nat) : w.frozen? ⟨g, k, none⟩ = false := Blk.frozen h k
theorem RB.congr (h : RB w g t n f) (he : ∀ k, k < n → f k = f' k) : RB w g t n f' := by
  have e : (List.range n).map f = (List.range n).map f' := List.map_congr_left fun k hk => he k (List.mem_range.1 hk)
  unfold RB at h ⊢
  rwa [e] at h
theorem RB.set_ (h : RB w g t n f) (k : Nat) (u : Value) : RB (w.setCell ⟨g, k, none⟩ u) g t n (fun j => if j = k then u else f j) := by
  have h' := Blk.set_ h k u
  unfold RB
  have e : ((List.range n).map f).toArray.setIfInBounds k u = ((List.range n).map (fun j => if j = k then u else f j)).toArray := by
    rw [List.setIfInBounds_toArray]
    congr 1
    apply List.ext_getElem?
    intro i
    rw [List.getElem?_set, List.getElem?_map]
    by_cases hin : i < n
    · by_cases hik : k = i
      · subst hik; simp [hin]
      · rw [if_neg hik]
        have : ¬ i = k := fun e => hik e.symm
        simp [hin, this]
    · simp only [List.getElem?_map, List.length_map, List.length_range]
      have : (List.range n)[i]? = none := by rw [List.getElem?_eq_none]; simp; omega
      rw [this]
      by_cases hik : k = i
      · subst hik; simp [hin]
      · rw [if_neg hik]; rfl
  rwa [e] at h'
theorem RB.reads (h : RB w g t n f) : Reads w w.heap.size 1 (some ⟨g, 0, none⟩) n ((List.range n).map f) := Blk.reads h (by simp)
end
theorem Tch.rb {X : Nat → Prop} {w w' : World} (h : Tch X w w') {g n : Nat} {t : TypeId} {f : Nat → Value} (hq : RB w g t n f) (hx : ¬ X g) : RB w' g t n f := Tch.blk h hq hx
theorem RB.lay {w w' : World} {g n : Nat} {t : TypeId} {f : Nat → Value} (h : RB w g t n f) (hb : Below w.heap.size w w') : RB w' g t n f := Blk.below h hb h.lt
theorem RB.alloc {w : World} {g n : Nat} {t : TypeId} {f : Nat → Value} (h : RB w g t n f) (o : Obj) : RB (w.alloc o) g t n f := Blk.alloc h o
theorem Tch.cell {X : Nat → Prop} {w w' : World} (h : Tch X w w') {p : Addr} (hp : p.block < w.heap.size) (hx : ¬ X p.block) : w'.cell? p = w.cell? p := World.cell?_of_block (h.block _ hp hx)
theorem made_one (z : Value) (n : Nat) : madeCells #[z] n = ((List.range n).map fun _ => z).toArray := by
  have h := toList_madeCells_one z n
  apply Array.ext'
  rw [h]
  simp [List.map_const']

end Go.Proofs.Ytclnffpfbngjoaa

end
