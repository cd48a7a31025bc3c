import Derived.Test.YtfigbdhfmlhjdaaQ16
import Derived.Test.YtfigbdhfmlhjdaaQ13

section
/- The place of a thing: steps that may fail; what is known while the sides are placed. -/
namespace Go.Proofs.Ytfigbdhfmlhjdaa
open Go Go.RowKit Go.Maps

/-- The answer of a sum, a difference, a product. -/
def resV (o : Option (Int × Int)) : Int × Int := o.getD (0, 0)
def resE (o : Option (Int × Int)) : Int := if o.isSome then 0 else 8
def Op2 (f : (Int × Int) → (Int × Int) → Option (Int × Int)) (F : FuncId) : Prop := ∀ (a b : Int × Int) (o : Option (Int × Int)), FOk a → FOk b → f a b = o → ∀ w : World,
  Calls Try.prog F #[.agg #[.int .i64 a.1, .int .i64 a.2], .agg #[.int .i64 b.1, .int .i64 b.2]] w fun e w' => e = .returned (.tuple #[.agg #[.int .i64 (resV o).1, .int .i64 (resV o).2], .int .i64 (resE o)]) ∧ Below w.heap.size w w'
theorem sub_opt : Op2 subF 55 := fun a b o ha hb ho w => by
  cases o with
  | none => exact (numSub_no a b ha hb ho w).mono fun e w' h => h
  | some p => exact (numSub_ok a b ha hb p ho w).mono fun e w' h => h
theorem add_opt : Op2 addF 18 := fun a b o ha hb ho w => by
  cases o with
  | none => exact (numAdd_no a b ha hb ho w).mono fun e w' h => h
  | some p => exact (numAdd_ok a b ha hb p ho w).mono fun e w' h => h
theorem mul_opt : Op2 mulF 19 := fun a b o ha hb ho w => by
  cases o with
  | none => exact (numMul_no a b ha hb ho w).mono fun e w' h => h
  | some p => exact (numMul_ok a b ha hb p ho w).mono fun e w' h => h

section
variable {l : List Rk} {g0 g1 : ByteArray → Int} {A : Option Addr} {n c tb mb : Nat} {top : Int} {n₀ gm gp : Nat}
theorem must_opt {K : ByteArray → Bool} {cnt : Nat} {lg : Bool} (o : Option (Int × Int)) (x y : Int) (ho : mustF o = (x, y)) (w : World) (h : PivAt l g0 g1 A n c tb mb top n₀ gm gp K cnt lg w) :
    Calls Try.prog 54 #[.pointer (some ⟨gp, 0, none⟩), .agg #[.int .i64 (resV o).1, .int .i64 (resV o).2], .int .i64 (resE o)] w fun e w' => e = .returned (.agg #[.int .i64 x, .int .i64 y]) ∧ Two gp gm w w' ∧ PivAt l g0 g1 A n c tb mb top n₀ gm gp K cnt (lg || !o.isSome) w' := by
  cases o with
  | none =>
    obtain ⟨rfl, rfl⟩ := Prod.mk.inj ho
    refine (mustc_no gp _ _ lg 0 0 8 (by decide) w h.blk).mono ?_
    rintro e w' ⟨he, hg, hk⟩
    have e1 : (lg || !(none : Option (Int × Int)).isSome) = true := by simp
    rw [e1]
    exact ⟨he, Two.of1 hg, h.raise hg hk⟩
  | some p =>
    obtain rfl : p = (x, y) := ho
    refine (mustc_ok gp x y w).mono ?_
    rintro e w' ⟨he, hb⟩
    have e1 : (lg || !(some (x, y)).isSome) = lg := by simp
    rw [e1]
    exact ⟨he, Two.of hb, h.below hb h.gp_lt⟩

/-- The flag is a ahead of operation q, b behind it. -/
def PivL (l : List Rk) (g0 g1 : ByteArray → Int) (A : Option Addr) (n c tb mb : Nat) (top : Int) (n₀ gm gp : Nat) (K : ByteArray → Bool) (cnt : Nat) (q : Nat) (a b : Bool) (f : Nat → Bool) (w : World) : Prop :=
  PivAt l g0 g1 A n c tb mb top n₀ gm gp K cnt (if f q then b else a) w
theorem PivL.same {K : ByteArray → Bool} {cnt q k : Nat} {a b : Bool} {f : Nat → Bool} {w : World} (h : PivL l g0 g1 A n c tb mb top n₀ gm gp K cnt q a b f w) (hk : k ≠ q) : PivL l g0 g1 A n c tb mb top n₀ gm gp K cnt q a b (Fx.add f k) w := by
  unfold PivL
  rw [add_ne' hk]
  exact h
theorem PivL.below {K : ByteArray → Bool} {cnt q : Nat} {a b : Bool} {f : Nat → Bool} {w w' : World} {B : Nat} (h : PivL l g0 g1 A n c tb mb top n₀ gm gp K cnt q a b f w) (hb : Below B w w') (hB : gp < B) : PivL l g0 g1 A n c tb mb top n₀ gm gp K cnt q a b f w' := PivAt.below h hb hB
theorem PivL.must {K : ByteArray → Bool} {cnt q : Nat} {lg : Bool} {f : Nat → Bool} {w : World} (o : Option (Int × Int)) (x y : Int) (ho : mustF o = (x, y)) (h : PivL l g0 g1 A n c tb mb top n₀ gm gp K cnt q lg (lg || !o.isSome) f w) (hf : f q = false) :
    Calls Try.prog 54 #[.pointer (some ⟨gp, 0, none⟩), .agg #[.int .i64 (resV o).1, .int .i64 (resV o).2], .int .i64 (resE o)] w fun e w' => e = .returned (.agg #[.int .i64 x, .int .i64 y]) ∧ Two gp gm w w' ∧ PivL l g0 g1 A n c tb mb top n₀ gm gp K cnt q lg (lg || !o.isSome) (Fx.add f q) w' := by
  have h1 : PivAt l g0 g1 A n c tb mb top n₀ gm gp K cnt lg w := by unfold PivL at h; rw [hf] at h; exact h
  refine (must_opt o x y ho w h1).mono ?_
  rintro e w' ⟨he, ht, hp⟩
  refine ⟨he, ht, ?_⟩
  unfold PivL
  rw [add_same]
  exact hp

/-- What place answers at a thing with m points below it. -/
def PlacePost (l : List Rk) (g0 g1 : ByteArray → Int) (A : Option Addr) (n c tb mb : Nat) (top : Int) (n₀ gm gp : Nat) (s : ByteArray) (m : Nat) (K : ByteArray → Bool) (cnt : Nat) (w : World) (e : Ending) (w' : World) : Prop :=
  e = .returned (valP l g0 g1 s) ∧ ∃ K' cnt' lg', Two gp gm w w' ∧ PivAt l g0 g1 A n c tb mb top n₀ gm gp K' cnt' lg' w' ∧ Good l g0 g1 K' lg' ∧ (∀ x, K x = true → K' x = true) ∧ K' s = true ∧ cnt' + 1 ≤ cnt + m
def PlaceOk (l : List Rk) (g0 g1 : ByteArray → Int) (A : Option Addr) (n c tb mb : Nat) (top : Int) (n₀ gm gp : Nat) (s : ByteArray) (m : Nat) (pts : List ByteArray) : Prop :=
  ∀ K cnt lg w, PivAt l g0 g1 A n c tb mb top n₀ gm gp K cnt lg w → Good l g0 g1 K lg → (∀ x ∈ pts, K x = true) → cnt + m ≤ 1000000000000000 →
    Calls Try.prog 29 #[.pointer (some ⟨gp, 0, none⟩), .string s] w (PlacePost l g0 g1 A n c tb mb top n₀ gm gp s m K cnt w)

/-- What is known while both sides are placed (operations 3 and 7). -/
def P5 (l : List Rk) (g0 g1 : ByteArray → Int) (A : Option Addr) (n c tb mb : Nat) (top : Int) (n₀ gm gp : Nat) (sl sr : ByteArray) (ml mr : Nat) (K : ByteArray → Bool) (cnt : Nat) (f : Nat → Bool) (w : World) : Prop :=
  ∃ K' cnt' lg', PivAt l g0 g1 A n c tb mb top n₀ gm gp K' cnt' lg' w ∧ Good l g0 g1 K' lg' ∧ (∀ x, K x = true → K' x = true) ∧ (f 3 = true → K' sl = true) ∧ (f 7 = true → K' sr = true) ∧
    (f 7 = true → cnt' + 2 ≤ cnt + (ml + mr)) ∧ (f 7 = false → f 3 = true → cnt' + 1 ≤ cnt + ml) ∧ (f 7 = false → f 3 = false → cnt' = cnt)
variable {sl sr : ByteArray} {ml mr : Nat} {K : ByteArray → Bool} {cnt : Nat} {f : Nat → Bool} {w w' : World}
theorem P5.same {k : Nat} (h : P5 l g0 g1 A n c tb mb top n₀ gm gp sl sr ml mr K cnt f w) (h3 : k ≠ 3) (h7 : k ≠ 7) : P5 l g0 g1 A n c tb mb top n₀ gm gp sl sr ml mr K cnt (Fx.add f k) w := by
  unfold P5
  rw [add_ne' h3, add_ne' h7]
  exact h
theorem P5.below {B : Nat} (h : P5 l g0 g1 A n c tb mb top n₀ gm gp sl sr ml mr K cnt f w) (hb : Below B w w') (hB : gp < B) : P5 l g0 g1 A n c tb mb top n₀ gm gp sl sr ml mr K cnt f w' := by
  obtain ⟨K', cnt', lg', h1, h2⟩ := h
  exact ⟨K', cnt', lg', h1.below hb hB, h2⟩
theorem P5.start {lg : Bool} (h : PivAt l g0 g1 A n c tb mb top n₀ gm gp K cnt lg w) (hg : Good l g0 g1 K lg) (h3 : f 3 = false) (h7 : f 7 = false) : P5 l g0 g1 A n c tb mb top n₀ gm gp sl sr ml mr K cnt f w :=
  ⟨K, cnt, lg, h, hg, fun _ h => h, fun e => absurd e (by rw [h3]; decide), fun e => absurd e (by rw [h7]; decide), fun e => absurd e (by rw [h7]; decide), fun _ e => absurd e (by rw [h3]; decide), fun _ _ => rfl⟩
theorem P5.left {pl : List ByteArray} (h : P5 l g0 g1 A n c tb mb top n₀ gm gp sl sr ml mr K cnt f w) (h3 : f 3 = false) (h7 : f 7 = false) (hL : PlaceOk l g0 g1 A n c tb mb top n₀ gm gp sl ml pl) (hp : ∀ x ∈ pl, K x = true) (hc : cnt + (ml + mr) ≤ 1000000000000000) :
    Calls Try.prog 29 #[.pointer (some ⟨gp, 0, none⟩), .string sl] w fun e w' => e = .returned (valP l g0 g1 sl) ∧ Two gp gm w w' ∧ P5 l g0 g1 A n c tb mb top n₀ gm gp sl sr ml mr K cnt (Fx.add f 3) w' := by
  obtain ⟨K', cnt', lg', k1, k2, k3, -, -, -, -, k8⟩ := h
  have hcc := k8 h7 h3
  refine (hL K' cnt' lg' w k1 k2 (fun x hx => k3 x (hp x hx)) (by omega)).mono ?_
  rintro e w' ⟨he, K2, cnt2, lg2, t1, t2, t3, t4, t5, t6⟩
  have e7 : Fx.add f 3 7 = false := by rw [add_ne' (by decide)]; exact h7
  exact ⟨he, t1, K2, cnt2, lg2, t2, t3, fun x hx => t4 x (k3 x hx), fun _ => t5, fun e => absurd e (by rw [e7]; decide), fun e => absurd e (by rw [e7]; decide), fun _ _ => by omega, fun _ e => absurd e (by rw [add_same]; decide)⟩
theorem P5.right {pr : List ByteArray} (h : P5 l g0 g1 A n c tb mb top n₀ gm gp sl sr ml mr K cnt f w) (h3 : f 3 = true) (h7 : f 7 = false) (hR : PlaceOk l g0 g1 A n c tb mb top n₀ gm gp sr mr pr) (hp : ∀ x ∈ pr, K x = true) (hc : cnt + (ml + mr) ≤ 1000000000000000) :
    Calls Try.prog 29 #[.pointer (some ⟨gp, 0, none⟩), .string sr] w fun e w' => e = .returned (valP l g0 g1 sr) ∧ Two gp gm w w' ∧ P5 l g0 g1 A n c tb mb top n₀ gm gp sl sr ml mr K cnt (Fx.add f 7) w' := by
  obtain ⟨K', cnt', lg', k1, k2, k3, k4, -, -, k7, -⟩ := h
  have hcc := k7 h7 h3
  refine (hR K' cnt' lg' w k1 k2 (fun x hx => k3 x (hp x hx)) (by omega)).mono ?_
  rintro e w' ⟨he, K2, cnt2, lg2, t1, t2, t3, t4, t5, t6⟩
  exact ⟨he, t1, K2, cnt2, lg2, t2, t3, fun x hx => t4 x (k3 x hx), fun _ => t4 _ (k4 h3), fun _ => t5, fun _ => by omega, fun e => absurd e (by rw [add_same]; decide), fun e => absurd e (by rw [add_same]; decide)⟩
theorem P5.end_ (h : P5 l g0 g1 A n c tb mb top n₀ gm gp sl sr ml mr K cnt f w) (h3 : f 3 = true) (h7 : f 7 = true) :
    ∃ K' cnt' lg', PivAt l g0 g1 A n c tb mb top n₀ gm gp K' cnt' lg' w ∧ Good l g0 g1 K' lg' ∧ (∀ x, K x = true → K' x = true) ∧ K' sl = true ∧ K' sr = true ∧ cnt' + 2 ≤ cnt + (ml + mr) := by
  obtain ⟨K', cnt', lg', k1, k2, k3, k4, k5, k6, -, -⟩ := h
  exact ⟨K', cnt', lg', k1, k2, k3, k4 h3, k5 h7, k6 h7⟩
end

theorem Two.set {a b : Nat} {w w' : World} (h : Two a b w w') {p : Addr} (hp : w.heap.size ≤ p.block) (u : Value) : Two a b w (w'.setCell p u) :=
  have hb : Below w.heap.size w' (w'.setCell p u) := (Below.refl _ _).setCell hp u
  ⟨hb.os.trans h.os, hb.tape.trans h.tape, hb.output.trans h.output, Nat.le_trans h.size hb.size, fun k hk ha hb' => (hb.block k hk).trans (h.block k hk ha hb')⟩
theorem PivAt.put {l : List Rk} {g0 g1 : ByteArray → Int} {A : Option Addr} {n c tb mb : Nat} {top : Int} {n₀ gm gp : Nat} {K : ByteArray → Bool} {cnt : Nat} {lg : Bool} {w : World} (h : PivAt l g0 g1 A n c tb mb top n₀ gm gp K cnt lg w) (name : ByteArray) (hnm : name.size ≤ maxLen) (hc : cnt < maxLen) :
    ∃ w', (Instr.mapUpdate 70 (.map (some gm)) (.string name) (valP l g0 g1 name)).run Try.prog w = .ok () w' ∧ PivAt l g0 g1 A n c tb mb top n₀ gm gp (fun u => u = name || K u) (cnt + 1) lg w' ∧ w.grownBy w' (some gm) := by
  obtain ⟨w', hrun, hm, hg⟩ := h.map.put Try.underlying9 Try.underlying70 name hnm hc (valP l g0 g1 name)
  have hlo := h.lo
  have hlt := h.lt
  have hgl := h.gp_lt
  refine ⟨w', hrun, ⟨h.tree.below ⟨hg.os, hg.tape, hg.output, hg.size, fun k hk => hg.block k (by omega) (fun e => by have := Option.some.inj e; omega)⟩, h.lo, h.lt, h.blk.grown hg (fun e => by have := Option.some.inj e; omega), ?_⟩, hg⟩
  have e : (fun u => if u = name then some (valP l g0 g1 name) else knM l g0 g1 K u) = knM l g0 g1 (fun u => u = name || K u) := by
    funext u
    unfold knM
    by_cases hu : u = name
    · subst hu; simp
    · rw [if_neg hu]; simp [hu]
  rw [← e]
  exact hm
/-- One more known thing. -/
theorem good_more {l : List Rk} {g0 g1 : ByteArray → Int} (h0 : openErr l = 0) {K : ByteArray → Bool} {lg : Bool} {s : ByteArray} {i : Nat} {r : Rk} (hi : idxOf l s = some i) (hr : l[i]? = some r) (hG : Good l g0 g1 K lg) (hl : K r.left = true) (hrt : K r.right = true) :
    Good l g0 g1 (fun u => u = s || K u) ((lg || !stepOK (plV l g0 r.left) (plV l g0 r.right) r.al r.ar) || !stepOK (plV l g1 r.left) (plV l g1 r.right) r.al r.ar) := by
  have e0 := (plV_step h0 g0 hi hr).2
  have e1 := (plV_step h0 g1 hi hr).2
  have hf : fl2 l g0 g1 s = (fl2 l g0 g1 r.left || fl2 l g0 g1 r.right || !stepOK (plV l g0 r.left) (plV l g0 r.right) r.al r.ar || !stepOK (plV l g1 r.left) (plV l g1 r.right) r.al r.ar) := by
    unfold fl2
    rw [e0, e1]
    cases flV l g0 r.left <;> cases flV l g0 r.right <;> cases flV l g1 r.left <;> cases flV l g1 r.right <;> cases stepOK (plV l g0 r.left) (plV l g0 r.right) r.al r.ar <;> cases stepOK (plV l g1 r.left) (plV l g1 r.right) r.al r.ar <;> rfl
  unfold Good at hG ⊢
  constructor
  · intro h
    simp only [Bool.or_eq_true, or_assoc] at h
    rcases h with h | h | h
    · obtain ⟨x, hx, hfx⟩ := hG.1 h
      exact ⟨x, by simp [hx], hfx⟩
    · exact ⟨s, by simp, by rw [hf]; simp only [Bool.or_eq_true]; exact .inl (.inr h)⟩
    · exact ⟨s, by simp, by rw [hf]; simp only [Bool.or_eq_true]; exact .inr h⟩
  · rintro ⟨x, hx, hfx⟩
    simp only [Bool.or_eq_true, decide_eq_true_eq] at hx
    rcases hx with rfl | hx
    · rw [hf] at hfx
      simp only [Bool.or_eq_true] at hfx ⊢
      rcases hfx with ((h | h) | h) | h
      · exact .inl (.inl (hG.2 ⟨_, hl, h⟩))
      · exact .inl (.inl (hG.2 ⟨_, hrt, h⟩))
      · exact .inl (.inr h)
      · exact .inr h
    · simp only [Bool.or_eq_true]
      exact .inl (.inl (hG.2 ⟨x, hx, hfx⟩))
end Go.Proofs.Ytfigbdhfmlhjdaa

end

section
/- The reference's sums, differences and products of right fractions. -/
namespace Go.Proofs.Ytfigbdhfmlhjdaa
open Go Go.RowKit

set_option maxRecDepth 100000 in
set_option maxHeartbeats 1000000 in
theorem refAdd_ok (a b : Int × Int) (ha : FOk a) (hb : FOk b) (p : Int × Int) (h : addF a b = some p) (w : World) :
    Calls Try.prog 62 #[.agg #[.int .i64 a.1, .int .i64 a.2], .agg #[.int .i64 b.1, .int .i64 b.2]] w fun e w' => e = .returned (.tuple #[.agg #[.int .i64 p.1, .int .i64 p.2], .int .i64 0]) ∧ Below w.heap.size w w' := by
  obtain ⟨a1, a2, a3, a4⟩ := ha.parts
  obtain ⟨b1, b2, b3, b4⟩ := hb.parts
  unfold addF at h
  obtain ⟨hs, h1, h2⟩ := opF_some h
  have HS := Lib.hid hs
  clear h hs ha hb
  obtain ⟨an, ad⟩ := a
  obtain ⟨bn, bd⟩ := b
  simp only at *
  obtain ⟨X, Y⟩ := p
  simp only at *
  subst h1 h2
  have q1 := prod_in a3 a4 (show -1000000000 ≤ bd by omega) b2
  have q2 := prod_in b3 b4 (show -1000000000 ≤ ad by omega) a2
  have q3 := den_in a1 a2 b1 b2
  have v1 := IntWalk.i64_in (an * bd) ⟨by omega, by omega⟩
  have v2 := IntWalk.i64_in (bn * ad) ⟨by omega, by omega⟩
  have v3 := IntWalk.i64_in (ad * bd) ⟨by omega, by omega⟩
  have v4 := IntWalk.i64_in (an * bd + bn * ad) ⟨by omega, by omega⟩
  go_enter Try.func62, Try.ntmps62
  go_wp2_with fail
  refine (made_ok (an * bd + bn * ad) (ad * bd) HS.out _ (by omega) (by omega) (by omega) (by omega)).mono ?_
  rintro e w1 ⟨rfl, hb⟩
  have HB1 := Lib.hid (show Below w.heap.size w w1 from step_below hb (by repeat' (first | exact Below.refl _ _ | exact HB0.out | refine below_drewN ?_ _ | refine Below.drew ?_ | refine Below.alloc ?_ (by first | omega | (simp; done) | (simp; omega) | (simp [World.setCell]; omega)) _ | refine Below.setCell ?_ (by first | omega | (simp; done) | (simp; omega)) _ | assumption)))
  have K0_1 := Lib.hid (step_blk hb (show Blk _ (w.heap.size) 35 #[.int .i64 (an), .int .i64 (ad)] by repeat' (first | exact Blk.at_ _ (by first | rfl | (simp; done) | (simp; omega)) _ _ | refine Blk.drewN ?_ _ | refine Blk.drew ?_ | refine Blk.alloc ?_ _ | refine Blk.far ?_ (by first | omega | (simp; done) | (simp; omega)) _ | assumption)))
  have K1_1 := Lib.hid (step_blk hb (show Blk _ (w.heap.size + 1) 35 #[.int .i64 (bn), .int .i64 (bd)] by repeat' (first | exact Blk.at_ _ (by first | rfl | (simp; done) | (simp; omega)) _ _ | refine Blk.drewN ?_ _ | refine Blk.drew ?_ | refine Blk.alloc ?_ _ | refine Blk.far ?_ (by first | omega | (simp; done) | (simp; omega)) _ | assumption)))
  have K2_1 := Lib.hid (step_blk hb (show Blk _ (w.heap.size + 2) 35 #[.int .i64 (0), .int .i64 (0)] by repeat' (first | exact Blk.at_ _ (by first | rfl | (simp; done) | (simp; omega)) _ _ | refine Blk.drewN ?_ _ | refine Blk.drew ?_ | refine Blk.alloc ?_ _ | refine Blk.far ?_ (by first | omega | (simp; done) | (simp; omega)) _ | assumption)))
  have hz1 := hb.size
  try simp only [World.size_alloc, World.drewN, World.drew] at hz1
  clear hb
  have l0_1 : w.heap.size < w1.heap.size := K0_1.out.lt
  have z0_0_1 : w1.cell? ⟨w.heap.size, 0, none⟩ = some (.int .i64 (an)) := K0_1.out.cell 0
  have z0_1_1 : w1.cell? ⟨w.heap.size, 1, none⟩ = some (.int .i64 (ad)) := K0_1.out.cell 1
  have l1_1 : w.heap.size + 1 < w1.heap.size := K1_1.out.lt
  have z1_0_1 : w1.cell? ⟨w.heap.size + 1, 0, none⟩ = some (.int .i64 (bn)) := K1_1.out.cell 0
  have z1_1_1 : w1.cell? ⟨w.heap.size + 1, 1, none⟩ = some (.int .i64 (bd)) := K1_1.out.cell 1
  have l2_1 : w.heap.size + 2 < w1.heap.size := K2_1.out.lt
  have z2_0_1 : w1.cell? ⟨w.heap.size + 2, 0, none⟩ = some (.int .i64 (0)) := K2_1.out.cell 0
  have z2_1_1 : w1.cell? ⟨w.heap.size + 2, 1, none⟩ = some (.int .i64 (0)) := K2_1.out.cell 1
  have zf2_0 := K2_1.out.frozen 0
  have zf2_1 := K2_1.out.frozen 1
  go_wp2
  exact bodyPost_ret (v := .tuple #[.agg #[.int .i64 (redN (an * bd + bn * ad) (ad * bd)), .int .i64 (redD (an * bd + bn * ad) (ad * bd))], .int .i64 0]) (by simp [results, Try.results62, go_sem, z2_0_1, z2_1_1, l2_1]) rfl ⟨rfl, by repeat' (first | exact Below.refl _ _ | exact HB1.out | refine below_drewN ?_ _ | refine Below.drew ?_ | refine Below.alloc ?_ (by first | omega | (simp; done) | (simp; omega) | (simp [World.setCell]; omega)) _ | refine Below.setCell ?_ (by first | omega | (simp; done) | (simp; omega)) _ | assumption)⟩

set_option maxRecDepth 100000 in
set_option maxHeartbeats 1000000 in
theorem refAdd_no (a b : Int × Int) (ha : FOk a) (hb : FOk b) (h : addF a b = none) (w : World) :
    Calls Try.prog 62 #[.agg #[.int .i64 a.1, .int .i64 a.2], .agg #[.int .i64 b.1, .int .i64 b.2]] w fun e w' => e = .returned (.tuple #[.agg #[.int .i64 0, .int .i64 0], .int .i64 8]) ∧ Below w.heap.size w w' := by
  obtain ⟨a1, a2, a3, a4⟩ := ha.parts
  obtain ⟨b1, b2, b3, b4⟩ := hb.parts
  unfold addF at h
  have hs := opF_none h
  have HS := Lib.hid hs
  clear h hs ha hb
  obtain ⟨an, ad⟩ := a
  obtain ⟨bn, bd⟩ := b
  simp only at *
  have q1 := prod_in a3 a4 (show -1000000000 ≤ bd by omega) b2
  have q2 := prod_in b3 b4 (show -1000000000 ≤ ad by omega) a2
  have q3 := den_in a1 a2 b1 b2
  have v1 := IntWalk.i64_in (an * bd) ⟨by omega, by omega⟩
  have v2 := IntWalk.i64_in (bn * ad) ⟨by omega, by omega⟩
  have v3 := IntWalk.i64_in (ad * bd) ⟨by omega, by omega⟩
  have v4 := IntWalk.i64_in (an * bd + bn * ad) ⟨by omega, by omega⟩
  go_enter Try.func62, Try.ntmps62
  go_wp2_with fail
  refine (made_no (an * bd + bn * ad) (ad * bd) HS.out _ (by omega) (by omega) (by omega) (by omega)).mono ?_
  rintro e w1 ⟨rfl, hb⟩
  have HB1 := Lib.hid (show Below w.heap.size w w1 from step_below hb (by repeat' (first | exact Below.refl _ _ | exact HB0.out | refine below_drewN ?_ _ | refine Below.drew ?_ | refine Below.alloc ?_ (by first | omega | (simp; done) | (simp; omega) | (simp [World.setCell]; omega)) _ | refine Below.setCell ?_ (by first | omega | (simp; done) | (simp; omega)) _ | assumption)))
  have K0_1 := Lib.hid (step_blk hb (show Blk _ (w.heap.size) 35 #[.int .i64 (an), .int .i64 (ad)] by repeat' (first | exact Blk.at_ _ (by first | rfl | (simp; done) | (simp; omega)) _ _ | refine Blk.drewN ?_ _ | refine Blk.drew ?_ | refine Blk.alloc ?_ _ | refine Blk.far ?_ (by first | omega | (simp; done) | (simp; omega)) _ | assumption)))
  have K1_1 := Lib.hid (step_blk hb (show Blk _ (w.heap.size + 1) 35 #[.int .i64 (bn), .int .i64 (bd)] by repeat' (first | exact Blk.at_ _ (by first | rfl | (simp; done) | (simp; omega)) _ _ | refine Blk.drewN ?_ _ | refine Blk.drew ?_ | refine Blk.alloc ?_ _ | refine Blk.far ?_ (by first | omega | (simp; done) | (simp; omega)) _ | assumption)))
  have K2_1 := Lib.hid (step_blk hb (show Blk _ (w.heap.size + 2) 35 #[.int .i64 (0), .int .i64 (0)] by repeat' (first | exact Blk.at_ _ (by first | rfl | (simp; done) | (simp; omega)) _ _ | refine Blk.drewN ?_ _ | refine Blk.drew ?_ | refine Blk.alloc ?_ _ | refine Blk.far ?_ (by first | omega | (simp; done) | (simp; omega)) _ | assumption)))
  have hz1 := hb.size
  try simp only [World.size_alloc, World.drewN, World.drew] at hz1
  clear hb
  have l0_1 : w.heap.size < w1.heap.size := K0_1.out.lt
  have z0_0_1 : w1.cell? ⟨w.heap.size, 0, none⟩ = some (.int .i64 (an)) := K0_1.out.cell 0
  have z0_1_1 : w1.cell? ⟨w.heap.size, 1, none⟩ = some (.int .i64 (ad)) := K0_1.out.cell 1
  have l1_1 : w.heap.size + 1 < w1.heap.size := K1_1.out.lt
  have z1_0_1 : w1.cell? ⟨w.heap.size + 1, 0, none⟩ = some (.int .i64 (bn)) := K1_1.out.cell 0
  have z1_1_1 : w1.cell? ⟨w.heap.size + 1, 1, none⟩ = some (.int .i64 (bd)) := K1_1.out.cell 1
  have l2_1 : w.heap.size + 2 < w1.heap.size := K2_1.out.lt
  have z2_0_1 : w1.cell? ⟨w.heap.size + 2, 0, none⟩ = some (.int .i64 (0)) := K2_1.out.cell 0
  have z2_1_1 : w1.cell? ⟨w.heap.size + 2, 1, none⟩ = some (.int .i64 (0)) := K2_1.out.cell 1
  have zf2_0 := K2_1.out.frozen 0
  have zf2_1 := K2_1.out.frozen 1
  go_wp2
  exact bodyPost_ret (v := .tuple #[.agg #[.int .i64 0, .int .i64 0], .int .i64 8]) (by simp [results, Try.results62, go_sem, z2_0_1, z2_1_1, l2_1]) rfl ⟨rfl, by repeat' (first | exact Below.refl _ _ | exact HB1.out | refine below_drewN ?_ _ | refine Below.drew ?_ | refine Below.alloc ?_ (by first | omega | (simp; done) | (simp; omega) | (simp [World.setCell]; omega)) _ | refine Below.setCell ?_ (by first | omega | (simp; done) | (simp; omega)) _ | assumption)⟩

set_option maxRecDepth 100000 in
set_option maxHeartbeats 1000000 in
theorem refSub_ok (a b : Int × Int) (ha : FOk a) (hb : FOk b) (p : Int × Int) (h : subF a b = some p) (w : World) :
    Calls Try.prog 59 #[.agg #[.int .i64 a.1, .int .i64 a.2], .agg #[.int .i64 b.1, .int .i64 b.2]] w fun e w' => e = .returned (.tuple #[.agg #[.int .i64 p.1, .int .i64 p.2], .int .i64 0]) ∧ Below w.heap.size w w' := by
  obtain ⟨a1, a2, a3, a4⟩ := ha.parts
  obtain ⟨b1, b2, b3, b4⟩ := hb.parts
  unfold subF at h
  obtain ⟨hs, h1, h2⟩ := opF_some h
  have HS := Lib.hid hs
  clear h hs ha hb
  obtain ⟨an, ad⟩ := a
  obtain ⟨bn, bd⟩ := b
  simp only at *
  obtain ⟨X, Y⟩ := p
  simp only at *
  subst h1 h2
  have q1 := prod_in a3 a4 (show -1000000000 ≤ bd by omega) b2
  have q2 := prod_in b3 b4 (show -1000000000 ≤ ad by omega) a2
  have q3 := den_in a1 a2 b1 b2
  have v1 := IntWalk.i64_in (an * bd) ⟨by omega, by omega⟩
  have v2 := IntWalk.i64_in (bn * ad) ⟨by omega, by omega⟩
  have v3 := IntWalk.i64_in (ad * bd) ⟨by omega, by omega⟩
  have v4 := IntWalk.i64_in (an * bd - bn * ad) ⟨by omega, by omega⟩
  go_enter Try.func59, Try.ntmps59
  go_wp2_with fail
  refine (made_ok (an * bd - bn * ad) (ad * bd) HS.out _ (by omega) (by omega) (by omega) (by omega)).mono ?_
  rintro e w1 ⟨rfl, hb⟩
  have HB1 := Lib.hid (show Below w.heap.size w w1 from step_below hb (by repeat' (first | exact Below.refl _ _ | exact HB0.out | refine below_drewN ?_ _ | refine Below.drew ?_ | refine Below.alloc ?_ (by first | omega | (simp; done) | (simp; omega) | (simp [World.setCell]; omega)) _ | refine Below.setCell ?_ (by first | omega | (simp; done) | (simp; omega)) _ | assumption)))
  have K0_1 := Lib.hid (step_blk hb (show Blk _ (w.heap.size) 35 #[.int .i64 (an), .int .i64 (ad)] by repeat' (first | exact Blk.at_ _ (by first | rfl | (simp; done) | (simp; omega)) _ _ | refine Blk.drewN ?_ _ | refine Blk.drew ?_ | refine Blk.alloc ?_ _ | refine Blk.far ?_ (by first | omega | (simp; done) | (simp; omega)) _ | assumption)))
  have K1_1 := Lib.hid (step_blk hb (show Blk _ (w.heap.size + 1) 35 #[.int .i64 (bn), .int .i64 (bd)] by repeat' (first | exact Blk.at_ _ (by first | rfl | (simp; done) | (simp; omega)) _ _ | refine Blk.drewN ?_ _ | refine Blk.drew ?_ | refine Blk.alloc ?_ _ | refine Blk.far ?_ (by first | omega | (simp; done) | (simp; omega)) _ | assumption)))
  have K2_1 := Lib.hid (step_blk hb (show Blk _ (w.heap.size + 2) 35 #[.int .i64 (0), .int .i64 (0)] by repeat' (first | exact Blk.at_ _ (by first | rfl | (simp; done) | (simp; omega)) _ _ | refine Blk.drewN ?_ _ | refine Blk.drew ?_ | refine Blk.alloc ?_ _ | refine Blk.far ?_ (by first | omega | (simp; done) | (simp; omega)) _ | assumption)))
  have hz1 := hb.size
  try simp only [World.size_alloc, World.drewN, World.drew] at hz1
  clear hb
  have l0_1 : w.heap.size < w1.heap.size := K0_1.out.lt
  have z0_0_1 : w1.cell? ⟨w.heap.size, 0, none⟩ = some (.int .i64 (an)) := K0_1.out.cell 0
  have z0_1_1 : w1.cell? ⟨w.heap.size, 1, none⟩ = some (.int .i64 (ad)) := K0_1.out.cell 1
  have l1_1 : w.heap.size + 1 < w1.heap.size := K1_1.out.lt
  have z1_0_1 : w1.cell? ⟨w.heap.size + 1, 0, none⟩ = some (.int .i64 (bn)) := K1_1.out.cell 0
  have z1_1_1 : w1.cell? ⟨w.heap.size + 1, 1, none⟩ = some (.int .i64 (bd)) := K1_1.out.cell 1
  have l2_1 : w.heap.size + 2 < w1.heap.size := K2_1.out.lt
  have z2_0_1 : w1.cell? ⟨w.heap.size + 2, 0, none⟩ = some (.int .i64 (0)) := K2_1.out.cell 0
  have z2_1_1 : w1.cell? ⟨w.heap.size + 2, 1, none⟩ = some (.int .i64 (0)) := K2_1.out.cell 1
  have zf2_0 := K2_1.out.frozen 0
  have zf2_1 := K2_1.out.frozen 1
  go_wp2
  exact bodyPost_ret (v := .tuple #[.agg #[.int .i64 (redN (an * bd - bn * ad) (ad * bd)), .int .i64 (redD (an * bd - bn * ad) (ad * bd))], .int .i64 0]) (by simp [results, Try.results59, go_sem, z2_0_1, z2_1_1, l2_1]) rfl ⟨rfl, by repeat' (first | exact Below.refl _ _ | exact HB1.out | refine below_drewN ?_ _ | refine Below.drew ?_ | refine Below.alloc ?_ (by first | omega | (simp; done) | (simp; omega) | (simp [World.setCell]; omega)) _ | refine Below.setCell ?_ (by first | omega | (simp; done) | (simp; omega)) _ | assumption)⟩

set_option maxRecDepth 100000 in
set_option maxHeartbeats 1000000 in
theorem refSub_no (a b : Int × Int) (ha : FOk a) (hb : FOk b) (h : subF a b = none) (w : World) :
    Calls Try.prog 59 #[.agg #[.int .i64 a.1, .int .i64 a.2], .agg #[.int .i64 b.1, .int .i64 b.2]] w fun e w' => e = .returned (.tuple #[.agg #[.int .i64 0, .int .i64 0], .int .i64 8]) ∧ Below w.heap.size w w' := by
  obtain ⟨a1, a2, a3, a4⟩ := ha.parts
  obtain ⟨b1, b2, b3, b4⟩ := hb.parts
  unfold subF at h
  have hs := opF_none h
  have HS := Lib.hid hs
  clear h hs ha hb
  obtain ⟨an, ad⟩ := a
  obtain ⟨bn, bd⟩ := b
  simp only at *
  have q1 := prod_in a3 a4 (show -1000000000 ≤ bd by omega) b2
  have q2 := prod_in b3 b4 (show -1000000000 ≤ ad by omega) a2
  have q3 := den_in a1 a2 b1 b2
  have v1 := IntWalk.i64_in (an * bd) ⟨by omega, by omega⟩
  have v2 := IntWalk.i64_in (bn * ad) ⟨by omega, by omega⟩
  have v3 := IntWalk.i64_in (ad * bd) ⟨by omega, by omega⟩
  have v4 := IntWalk.i64_in (an * bd - bn * ad) ⟨by omega, by omega⟩
  go_enter Try.func59, Try.ntmps59
  go_wp2_with fail
  refine (made_no (an * bd - bn * ad) (ad * bd) HS.out _ (by omega) (by omega) (by omega) (by omega)).mono ?_
  rintro e w1 ⟨rfl, hb⟩
  have HB1 := Lib.hid (show Below w.heap.size w w1 from step_below hb (by repeat' (first | exact Below.refl _ _ | exact HB0.out | refine below_drewN ?_ _ | refine Below.drew ?_ | refine Below.alloc ?_ (by first | omega | (simp; done) | (simp; omega) | (simp [World.setCell]; omega)) _ | refine Below.setCell ?_ (by first | omega | (simp; done) | (simp; omega)) _ | assumption)))
  have K0_1 := Lib.hid (step_blk hb (show Blk _ (w.heap.size) 35 #[.int .i64 (an), .int .i64 (ad)] by repeat' (first | exact Blk.at_ _ (by first | rfl | (simp; done) | (simp; omega)) _ _ | refine Blk.drewN ?_ _ | refine Blk.drew ?_ | refine Blk.alloc ?_ _ | refine Blk.far ?_ (by first | omega | (simp; done) | (simp; omega)) _ | assumption)))
  have K1_1 := Lib.hid (step_blk hb (show Blk _ (w.heap.size + 1) 35 #[.int .i64 (bn), .int .i64 (bd)] by repeat' (first | exact Blk.at_ _ (by first | rfl | (simp; done) | (simp; omega)) _ _ | refine Blk.drewN ?_ _ | refine Blk.drew ?_ | refine Blk.alloc ?_ _ | refine Blk.far ?_ (by first | omega | (simp; done) | (simp; omega)) _ | assumption)))
  have K2_1 := Lib.hid (step_blk hb (show Blk _ (w.heap.size + 2) 35 #[.int .i64 (0), .int .i64 (0)] by repeat' (first | exact Blk.at_ _ (by first | rfl | (simp; done) | (simp; omega)) _ _ | refine Blk.drewN ?_ _ | refine Blk.drew ?_ | refine Blk.alloc ?_ _ | refine Blk.far ?_ (by first | omega | (simp; done) | (simp; omega)) _ | assumption)))
  have hz1 := hb.size
  try simp only [World.size_alloc, World.drewN, World.drew] at hz1
  clear hb
  have l0_1 : w.heap.size < w1.heap.size := K0_1.out.lt
  have z0_0_1 : w1.cell? ⟨w.heap.size, 0, none⟩ = some (.int .i64 (an)) := K0_1.out.cell 0
  have z0_1_1 : w1.cell? ⟨w.heap.size, 1, none⟩ = some (.int .i64 (ad)) := K0_1.out.cell 1
  have l1_1 : w.heap.size + 1 < w1.heap.size := K1_1.out.lt
  have z1_0_1 : w1.cell? ⟨w.heap.size + 1, 0, none⟩ = some (.int .i64 (bn)) := K1_1.out.cell 0
  have z1_1_1 : w1.cell? ⟨w.heap.size + 1, 1, none⟩ = some (.int .i64 (bd)) := K1_1.out.cell 1
  have l2_1 : w.heap.size + 2 < w1.heap.size := K2_1.out.lt
  have z2_0_1 : w1.cell? ⟨w.heap.size + 2, 0, none⟩ = some (.int .i64 (0)) := K2_1.out.cell 0
  have z2_1_1 : w1.cell? ⟨w.heap.size + 2, 1, none⟩ = some (.int .i64 (0)) := K2_1.out.cell 1
  have zf2_0 := K2_1.out.frozen 0
  have zf2_1 := K2_1.out.frozen 1
  go_wp2
  exact bodyPost_ret (v := .tuple #[.agg #[.int .i64 0, .int .i64 0], .int .i64 8]) (by simp [results, Try.results59, go_sem, z2_0_1, z2_1_1, l2_1]) rfl ⟨rfl, by repeat' (first | exact Below.refl _ _ | exact HB1.out | refine below_drewN ?_ _ | refine Below.drew ?_ | refine Below.alloc ?_ (by first | omega | (simp; done) | (simp; omega) | (simp [World.setCell]; omega)) _ | refine Below.setCell ?_ (by first | omega | (simp; done) | (simp; omega)) _ | assumption)⟩

set_option maxRecDepth 100000 in
set_option maxHeartbeats 1000000 in
theorem refMul_ok (a b : Int × Int) (ha : FOk a) (hb : FOk b) (p : Int × Int) (h : mulF a b = some p) (w : World) :
    Calls Try.prog 60 #[.agg #[.int .i64 a.1, .int .i64 a.2], .agg #[.int .i64 b.1, .int .i64 b.2]] w fun e w' => e = .returned (.tuple #[.agg #[.int .i64 p.1, .int .i64 p.2], .int .i64 0]) ∧ Below w.heap.size w w' := by
  obtain ⟨a1, a2, a3, a4⟩ := ha.parts
  obtain ⟨b1, b2, b3, b4⟩ := hb.parts
  unfold mulF at h
  obtain ⟨hs, h1, h2⟩ := opF_some h
  have HS := Lib.hid hs
  clear h hs ha hb
  obtain ⟨an, ad⟩ := a
  obtain ⟨bn, bd⟩ := b
  simp only at *
  obtain ⟨X, Y⟩ := p
  simp only at *
  subst h1 h2
  have q1 := prod_in a3 a4 b3 b4
  have q3 := den_in a1 a2 b1 b2
  have v1 := IntWalk.i64_in (an * bn) ⟨by omega, by omega⟩
  have v3 := IntWalk.i64_in (ad * bd) ⟨by omega, by omega⟩
  go_enter Try.func60, Try.ntmps60
  go_wp2_with fail
  refine (made_ok (an * bn) (ad * bd) HS.out _ (by omega) (by omega) (by omega) (by omega)).mono ?_
  rintro e w1 ⟨rfl, hb⟩
  have HB1 := Lib.hid (show Below w.heap.size w w1 from step_below hb (by repeat' (first | exact Below.refl _ _ | exact HB0.out | refine below_drewN ?_ _ | refine Below.drew ?_ | refine Below.alloc ?_ (by first | omega | (simp; done) | (simp; omega) | (simp [World.setCell]; omega)) _ | refine Below.setCell ?_ (by first | omega | (simp; done) | (simp; omega)) _ | assumption)))
  have K0_1 := Lib.hid (step_blk hb (show Blk _ (w.heap.size) 35 #[.int .i64 (an), .int .i64 (ad)] by repeat' (first | exact Blk.at_ _ (by first | rfl | (simp; done) | (simp; omega)) _ _ | refine Blk.drewN ?_ _ | refine Blk.drew ?_ | refine Blk.alloc ?_ _ | refine Blk.far ?_ (by first | omega | (simp; done) | (simp; omega)) _ | assumption)))
  have K1_1 := Lib.hid (step_blk hb (show Blk _ (w.heap.size + 1) 35 #[.int .i64 (bn), .int .i64 (bd)] by repeat' (first | exact Blk.at_ _ (by first | rfl | (simp; done) | (simp; omega)) _ _ | refine Blk.drewN ?_ _ | refine Blk.drew ?_ | refine Blk.alloc ?_ _ | refine Blk.far ?_ (by first | omega | (simp; done) | (simp; omega)) _ | assumption)))
  have K2_1 := Lib.hid (step_blk hb (show Blk _ (w.heap.size + 2) 35 #[.int .i64 (0), .int .i64 (0)] by repeat' (first | exact Blk.at_ _ (by first | rfl | (simp; done) | (simp; omega)) _ _ | refine Blk.drewN ?_ _ | refine Blk.drew ?_ | refine Blk.alloc ?_ _ | refine Blk.far ?_ (by first | omega | (simp; done) | (simp; omega)) _ | assumption)))
  have hz1 := hb.size
  try simp only [World.size_alloc, World.drewN, World.drew] at hz1
  clear hb
  have l0_1 : w.heap.size < w1.heap.size := K0_1.out.lt
  have z0_0_1 : w1.cell? ⟨w.heap.size, 0, none⟩ = some (.int .i64 (an)) := K0_1.out.cell 0
  have z0_1_1 : w1.cell? ⟨w.heap.size, 1, none⟩ = some (.int .i64 (ad)) := K0_1.out.cell 1
  have l1_1 : w.heap.size + 1 < w1.heap.size := K1_1.out.lt
  have z1_0_1 : w1.cell? ⟨w.heap.size + 1, 0, none⟩ = some (.int .i64 (bn)) := K1_1.out.cell 0
  have z1_1_1 : w1.cell? ⟨w.heap.size + 1, 1, none⟩ = some (.int .i64 (bd)) := K1_1.out.cell 1
  have l2_1 : w.heap.size + 2 < w1.heap.size := K2_1.out.lt
  have z2_0_1 : w1.cell? ⟨w.heap.size + 2, 0, none⟩ = some (.int .i64 (0)) := K2_1.out.cell 0
  have z2_1_1 : w1.cell? ⟨w.heap.size + 2, 1, none⟩ = some (.int .i64 (0)) := K2_1.out.cell 1
  have zf2_0 := K2_1.out.frozen 0
  have zf2_1 := K2_1.out.frozen 1
  go_wp2
  exact bodyPost_ret (v := .tuple #[.agg #[.int .i64 (redN (an * bn) (ad * bd)), .int .i64 (redD (an * bn) (ad * bd))], .int .i64 0]) (by simp [results, Try.results60, go_sem, z2_0_1, z2_1_1, l2_1]) rfl ⟨rfl, by repeat' (first | exact Below.refl _ _ | exact HB1.out | refine below_drewN ?_ _ | refine Below.drew ?_ | refine Below.alloc ?_ (by first | omega | (simp; done) | (simp; omega) | (simp [World.setCell]; omega)) _ | refine Below.setCell ?_ (by first | omega | (simp; done) | (simp; omega)) _ | assumption)⟩

set_option maxRecDepth 100000 in
set_option maxHeartbeats 1000000 in
theorem refMul_no (a b : Int × Int) (ha : FOk a) (hb : FOk b) (h : mulF a b = none) (w : World) :
    Calls Try.prog 60 #[.agg #[.int .i64 a.1, .int .i64 a.2], .agg #[.int .i64 b.1, .int .i64 b.2]] w fun e w' => e = .returned (.tuple #[.agg #[.int .i64 0, .int .i64 0], .int .i64 8]) ∧ Below w.heap.size w w' := by
  obtain ⟨a1, a2, a3, a4⟩ := ha.parts
  obtain ⟨b1, b2, b3, b4⟩ := hb.parts
  unfold mulF at h
  have hs := opF_none h
  have HS := Lib.hid hs
  clear h hs ha hb
  obtain ⟨an, ad⟩ := a
  obtain ⟨bn, bd⟩ := b
  simp only at *
  have q1 := prod_in a3 a4 b3 b4
  have q3 := den_in a1 a2 b1 b2
  have v1 := IntWalk.i64_in (an * bn) ⟨by omega, by omega⟩
  have v3 := IntWalk.i64_in (ad * bd) ⟨by omega, by omega⟩
  go_enter Try.func60, Try.ntmps60
  go_wp2_with fail
  refine (made_no (an * bn) (ad * bd) HS.out _ (by omega) (by omega) (by omega) (by omega)).mono ?_
  rintro e w1 ⟨rfl, hb⟩
  have HB1 := Lib.hid (show Below w.heap.size w w1 from step_below hb (by repeat' (first | exact Below.refl _ _ | exact HB0.out | refine below_drewN ?_ _ | refine Below.drew ?_ | refine Below.alloc ?_ (by first | omega | (simp; done) | (simp; omega) | (simp [World.setCell]; omega)) _ | refine Below.setCell ?_ (by first | omega | (simp; done) | (simp; omega)) _ | assumption)))
  have K0_1 := Lib.hid (step_blk hb (show Blk _ (w.heap.size) 35 #[.int .i64 (an), .int .i64 (ad)] by repeat' (first | exact Blk.at_ _ (by first | rfl | (simp; done) | (simp; omega)) _ _ | refine Blk.drewN ?_ _ | refine Blk.drew ?_ | refine Blk.alloc ?_ _ | refine Blk.far ?_ (by first | omega | (simp; done) | (simp; omega)) _ | assumption)))
  have K1_1 := Lib.hid (step_blk hb (show Blk _ (w.heap.size + 1) 35 #[.int .i64 (bn), .int .i64 (bd)] by repeat' (first | exact Blk.at_ _ (by first | rfl | (simp; done) | (simp; omega)) _ _ | refine Blk.drewN ?_ _ | refine Blk.drew ?_ | refine Blk.alloc ?_ _ | refine Blk.far ?_ (by first | omega | (simp; done) | (simp; omega)) _ | assumption)))
  have K2_1 := Lib.hid (step_blk hb (show Blk _ (w.heap.size + 2) 35 #[.int .i64 (0), .int .i64 (0)] by repeat' (first | exact Blk.at_ _ (by first | rfl | (simp; done) | (simp; omega)) _ _ | refine Blk.drewN ?_ _ | refine Blk.drew ?_ | refine Blk.alloc ?_ _ | refine Blk.far ?_ (by first | omega | (simp; done) | (simp; omega)) _ | assumption)))
  have hz1 := hb.size
  try simp only [World.size_alloc, World.drewN, World.drew] at hz1
  clear hb
  have l0_1 : w.heap.size < w1.heap.size := K0_1.out.lt
  have z0_0_1 : w1.cell? ⟨w.heap.size, 0, none⟩ = some (.int .i64 (an)) := K0_1.out.cell 0
  have z0_1_1 : w1.cell? ⟨w.heap.size, 1, none⟩ = some (.int .i64 (ad)) := K0_1.out.cell 1
  have l1_1 : w.heap.size + 1 < w1.heap.size := K1_1.out.lt
  have z1_0_1 : w1.cell? ⟨w.heap.size + 1, 0, none⟩ = some (.int .i64 (bn)) := K1_1.out.cell 0
  have z1_1_1 : w1.cell? ⟨w.heap.size + 1, 1, none⟩ = some (.int .i64 (bd)) := K1_1.out.cell 1
  have l2_1 : w.heap.size + 2 < w1.heap.size := K2_1.out.lt
  have z2_0_1 : w1.cell? ⟨w.heap.size + 2, 0, none⟩ = some (.int .i64 (0)) := K2_1.out.cell 0
  have z2_1_1 : w1.cell? ⟨w.heap.size + 2, 1, none⟩ = some (.int .i64 (0)) := K2_1.out.cell 1
  have zf2_0 := K2_1.out.frozen 0
  have zf2_1 := K2_1.out.frozen 1
  go_wp2
  exact bodyPost_ret (v := .tuple #[.agg #[.int .i64 0, .int .i64 0], .int .i64 8]) (by simp [results, Try.results60, go_sem, z2_0_1, z2_1_1, l2_1]) rfl ⟨rfl, by repeat' (first | exact Below.refl _ _ | exact HB1.out | refine below_drewN ?_ _ | refine Below.drew ?_ | refine Below.alloc ?_ (by first | omega | (simp; done) | (simp; omega) | (simp [World.setCell]; omega)) _ | refine Below.setCell ?_ (by first | omega | (simp; done) | (simp; omega)) _ | assumption)⟩

end Go.Proofs.Ytfigbdhfmlhjdaa

end
