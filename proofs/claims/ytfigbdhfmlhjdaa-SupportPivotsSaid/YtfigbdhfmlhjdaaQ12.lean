import Derived.Test.YtfigbdhfmlhjdaaQ2
import Derived.RangeFuncNested
import Derived.RangeFuncBound
import Derived.RangeFuncCalls
import Derived.RangeFuncLeaves
import Derived.OrdersIn
import Derived.Test.YtfigbdhfmlhjdaaQ4
import Derived.Test.YtfigbdhfmlhjdaaQ9

section
/- The rule for a region whose order is left open, in a round of a range over a function; the marks that such ranges leave among the deferred calls. -/
namespace Go.Proofs.Ytfigbdhfmlhjdaa.Fx
open Go Go.RowKit

section
variable {P : Program} {ops : Array Oper} {md : Region.Mode}

def noDefer (l : List Oper) : Bool := l.all fun o => match o.op with | .defer _ => false | _ => true
theorem Gives.wpIn {r n : Nat} {o : Oper} {a : Act} {w : World} {v : Value} {R : World → Prop} {K : Act → World → Prop} {Q : Exit → Act → World → Prop} (hd : ∀ c, o.op ≠ .defer c) (h : Gives P o a w v R) (hk : ∀ w', R w' → K (a.put o.dst v) w') : o.wpIn (Fence.wide.inRound r) n P a w K Q := by
  unfold Oper.wpIn
  refine ⟨fun f _ => trivial, ?_⟩
  rw [Oper.semAt_eq _ _ _ hd]
  unfold Gives at h
  generalize (execOp a.eval o).run P w = q at *
  cases q with
  | halt x w' => exact h.elim
  | ok m w' =>
    cases m
    case value u => obtain ⟨rfl, hr⟩ := h; exact hk _ hr
    case skip => obtain ⟨rfl, hr⟩ := h; exact hk _ hr
    case enter f args =>
      refine ⟨(fun h => by cases h), CallsIn.inRound r (callsIn_wide.2 (Calls.mono h fun e w'' ⟨he, hr⟩ => ?_))⟩
      subst he
      exact hk _ hr
    all_goals exact h.elim

end

/-! Marks. -/
/-- The deferred calls that ranges over functions have left: blocks Ds. -/
def marks (Ds : List Nat) : List Deferred := Ds.map fun D => { target := .collected D, args := #[] }
/-- The blocks of the marks are there, each for itself, from B on. -/
def MarksAt (B : Nat) (Ds : List Nat) (w : World) : Prop := Ds.Nodup ∧ ∀ D ∈ Ds, B ≤ D ∧ w.heap[D]? = some (.deferred (some []))

theorem MarksAt.nil (B : Nat) (w : World) : MarksAt B [] w := ⟨by simp, fun D h => by cases h⟩
theorem MarksAt.keep {B : Nat} {Ds : List Nat} {w w' : World} (h : MarksAt B Ds w) (hk : ∀ D, B ≤ D → D < w.heap.size → w'.heap[D]? = w.heap[D]?) : MarksAt B Ds w' :=
  ⟨h.1, fun D hD => ⟨(h.2 D hD).1, (hk D (h.2 D hD).1 (Array.getElem?_eq_some_iff.1 (h.2 D hD).2).1).trans (h.2 D hD).2⟩⟩
theorem MarksAt.cons {B D : Nat} {Ds : List Nat} {w : World} (h : MarksAt B Ds w) (hB : B ≤ D) (hD : w.heap[D]? = some (.deferred (some []))) (hn : D ∉ Ds) : MarksAt B (D :: Ds) w :=
  ⟨List.nodup_cons.2 ⟨hn, h.1⟩, fun E hE => by
    rcases List.mem_cons.1 hE with rfl | hE
    · exact ⟨hB, hD⟩
    · exact h.2 E hE⟩

end Go.Proofs.Ytfigbdhfmlhjdaa.Fx

end

section
/- Contracts of the search of the best pair of gears. -/
namespace Go.Proofs.Ytfigbdhfmlhjdaa
open Go.RowKit

def cmpI (a b : Int) : Int := if a < b then -1 else if b < a then 1 else 0

theorem isnan_any (a : Int) (w : World) : Calls Try.prog 78 #[.int .i64 a] w fun e w' => e = .returned (.bool false) ∧ w = w' := by
  have h : (a != a) = false := by simp
  go_enter Try.func78, Try.ntmps78
  go_wp2
  go_ret
  exact ⟨by simp, rfl⟩

theorem cmp_any (a b : Int) (w : World) : Calls Try.prog 70 #[.int .i64 a, .int .i64 b] w fun e w' => e = .returned (.int .i64 (cmpI a b)) ∧ w = w' := by
  by_cases h1 : a < b
  · go_enter Try.func70, Try.ntmps70
    go_wp2_with (go_at_call 78; refine (isnan_any _ _).mono ?_; rintro e w' ⟨rfl, rfl⟩)
    go_ret
    exact ⟨ret_int (by unfold cmpI; rw [if_pos h1]), rfl⟩
  · by_cases h2 : b < a
    · go_enter Try.func70, Try.ntmps70
      go_wp2_with (go_at_call 78; refine (isnan_any _ _).mono ?_; rintro e w' ⟨rfl, rfl⟩)
      go_ret
      exact ⟨ret_int (by unfold cmpI; rw [if_neg (by omega), if_pos h2]), rfl⟩
    · go_enter Try.func70, Try.ntmps70
      go_wp2_with (go_at_call 78; refine (isnan_any _ _).mono ?_; rintro e w' ⟨rfl, rfl⟩)
      go_ret
      exact ⟨ret_int (by unfold cmpI; rw [if_neg (by omega), if_neg (by omega)]), rfl⟩

theorem mul_bound {a b A B : Int} (h1 : 0 ≤ a) (h2 : a ≤ A) (h3 : 0 ≤ b) (h4 : b ≤ B) : 0 ≤ a * b ∧ a * b ≤ A * B :=
  ⟨Int.mul_nonneg h1 h3, Int.mul_le_mul h2 h4 h3 (Int.le_trans h1 h2)⟩

theorem ret_int2 {k k' : IntKind} {a b c d : Int} (h : a = b) (h' : c = d) : Ending.returned (.tuple #[.int k a, .int k' c]) = .returned (.tuple #[.int k b, .int k' d]) := by rw [h, h']

theorem far_any (rn rd gd gv : Int) (w : World) (h1 : -4000000000000000000 ≤ rn * gv) (h2 : rn * gv ≤ 4000000000000000000) (h3 : -4000000000000000000 ≤ gd * rd) (h4 : gd * rd ≤ 4000000000000000000) :
    Calls Try.prog 77 #[.agg #[.int .i64 rn, .int .i64 rd], .agg #[.int .i64 gd, .int .i64 gv]] w fun e w' =>
      e = .returned (.tuple #[.int .i64 ((rn * gv - gd * rd).natAbs : Int), .int .i64 gv]) ∧ Below w.heap.size w w' ∧ w'.heap.size = w.heap.size + 2 := by
  go_enter Try.func77, Try.ntmps77
  go_wp2
  go_region
  all_goals go_wp2
  all_goals go_ret2
  all_goals exact ⟨ret_int2 (by omega) rfl, (((Below.refl _ _).alloc (Nat.le_refl _) _).alloc (by simp) _).drew, by simp⟩

/-- By how much a pair misses a ratio. -/
def offF (rn rd gd gv : Int) : Int := ((rn * gv - gd * rd).natAbs : Int)
def cmpF (rn rd : Int) (g h : Int × Int) : Int := cmpI (offF rn rd g.1 g.2 * h.2) (offF rn rd h.1 h.2 * g.2)

theorem off_bound {rn rd gd gv : Int} (h1 : 0 ≤ rn) (h2 : rn ≤ 1000000000) (h3 : 0 ≤ rd) (h4 : rd ≤ 1000000000) (a1 : 0 ≤ gd) (a2 : gd ≤ 500) (b1 : 0 ≤ gv) (b2 : gv ≤ 500) :
    0 ≤ offF rn rd gd gv ∧ offF rn rd gd gv ≤ 500000000000 := by
  have m1 := mul_bound h1 h2 b1 b2
  have m2 := mul_bound a1 a2 h3 h4
  unfold offF
  omega

theorem compare_any (rn rd gd gv hd hv : Int) (w : World) (h1 : 0 ≤ rn) (h2 : rn ≤ 1000000000) (h3 : 0 ≤ rd) (h4 : rd ≤ 1000000000)
    (a1 : 0 ≤ gd) (a2 : gd ≤ 500) (b1 : 0 ≤ gv) (b2 : gv ≤ 500) (c1 : 0 ≤ hd) (c2 : hd ≤ 500) (d1 : 0 ≤ hv) (d2 : hv ≤ 500) :
    Calls Try.prog 69 #[.agg #[.int .i64 rn, .int .i64 rd], .agg #[.int .i64 gd, .int .i64 gv], .agg #[.int .i64 hd, .int .i64 hv]] w fun e w' =>
      e = .returned (.int .i64 (cmpF rn rd (gd, gv) (hd, hv))) ∧ Below w.heap.size w w' ∧ w'.heap.size = w.heap.size + 7 := by
  have m1 := mul_bound h1 h2 b1 b2
  have m2 := mul_bound a1 a2 h3 h4
  have m3 := mul_bound h1 h2 d1 d2
  have m4 := mul_bound c1 c2 h3 h4
  have o1 := off_bound h1 h2 h3 h4 a1 a2 b1 b2
  have o2 := off_bound h1 h2 h3 h4 c1 c2 d1 d2
  have p1 := mul_bound o1.1 o1.2 d1 d2
  have p2 := mul_bound o2.1 o2.2 b1 b2
  unfold offF at p1 p2
  go_enter Try.func69, Try.ntmps69
  go_wp2_with fail
  refine (far_any _ _ _ _ _ (by omega) (by omega) (by omega) (by omega)).mono ?_
  rintro e w1 ⟨rfl, hb1, hs1⟩
  simp only [World.size_alloc] at hb1 hs1
  have k0 : w1.cell? ⟨w.heap.size, 0, none⟩ = some (.int .i64 rn) := by rw [hb1.cell (by simp; omega)]; go_simp
  have k1 : w1.cell? ⟨w.heap.size, 1, none⟩ = some (.int .i64 rd) := by rw [hb1.cell (by simp; omega)]; go_simp
  have k2 : w1.cell? ⟨w.heap.size + 2, 0, none⟩ = some (.int .i64 hd) := by rw [hb1.cell (by simp)]; go_simp
  have k3 : w1.cell? ⟨w.heap.size + 2, 1, none⟩ = some (.int .i64 hv) := by rw [hb1.cell (by simp)]; go_simp
  have HS := Lib.hid hs1
  clear hs1
  go_wp2_with fail
  refine (far_any _ _ _ _ _ (by omega) (by omega) (by omega) (by omega)).mono ?_
  rintro e w2 ⟨rfl, hb2, hs2⟩
  have HS2 := Lib.hid hs2
  clear hs2
  go_wp2_with (go_at_call 70; refine (cmp_any _ _ _).mono ?_; rintro e w' ⟨rfl, rfl⟩)
  go_ret
  refine ⟨rfl, ?_, by rw [HS2.out, HS.out]⟩
  have q1 : Below w.heap.size w w1 := ((((Below.refl _ _).alloc (Nat.le_refl _) _).alloc (by simp) _).alloc (by simp; omega) _).trans (hb1.mono (by omega))
  exact q1.trans (hb2.mono (by have := q1.size; omega))

def orF (x y z : Int) : Int := if x ≠ 0 then x else if y ≠ 0 then y else z

theorem or_any (x y z : Int) (A : Option Addr) (c N : Nat) (w : World) (h : Reads w N 1 A 3 [.int .i64 x, .int .i64 y, .int .i64 z]) :
    Calls Try.prog 68 #[.slice A 3 c] w fun e w' => e = .returned (.int .i64 (orF x y z)) ∧ w = w' := by
  obtain ⟨b, o, u, rfl, _, hu, c0⟩ := h.at_ (k := 0) (by omega)
  obtain ⟨b', o', u1, e1, _, hu1, c1⟩ := h.at_ (k := 1) (by omega)
  obtain ⟨b'', o'', u2, e2, _, hu2, c2⟩ := h.at_ (k := 2) (by omega)
  simp only [Option.some.injEq, Addr.mk.injEq, and_true] at e1 e2
  obtain ⟨rfl, rfl⟩ := e1
  obtain ⟨rfl, rfl⟩ := e2
  simp at hu hu1 hu2
  subst hu hu1 hu2
  simp only [Nat.add_zero] at c0
  clear h
  go_enter Try.func68, Try.ntmps68
  go_wp2
  refine wp_loop_rounds 4 ?_
  repeat any_goals (rw [rounds_succ]; go_wp2)
  all_goals go_ret
  · have h : (x != 0) = true := by assumption
    exact ⟨ret_int (show x = _ by unfold orF; rw [if_pos (by simpa using h)]), rfl⟩
  · have h : (x != 0) = false := by assumption
    have h2 : (y != 0) = true := by assumption
    exact ⟨ret_int (show y = _ by unfold orF; rw [if_neg (by simpa using h), if_pos (by simpa using h2)]), rfl⟩
  · have h : (x != 0) = false := by assumption
    have h2 : (y != 0) = false := by assumption
    exact ⟨ret_int (show z = _ by unfold orF; rw [if_neg (by simpa using h), if_neg (by simpa using h2)]), rfl⟩
  · have h : (x != 0) = false := by assumption
    have h2 : (y != 0) = false := by assumption
    have h3 : (z != 0) = false := by assumption
    exact ⟨ret_int (show 0 = _ by unfold orF; rw [if_neg (by simpa using h), if_neg (by simpa using h2)]; have := h3; simp at this; omega), rfl⟩

/-- Is a pair better than another one? -/
def betterB (rn rd : Int) (g h : Int × Int) : Bool :=
  decide (orF (cmpF rn rd g h) (cmpI (g.1 + g.2) (h.1 + h.2)) (cmpI g.1 h.1) < 0)
def stepF (rn rd : Int) (o g : Int × Int) : Int × Int := if betterB rn rd g o then g else o
/-- The best pair so far: rows of drivers. -/
def rowF (rn rd : Int) (lo : Int) (m : Nat) (d : Int) (o : Int × Int) : Int × Int := (List.range m).foldl (fun o (j : Nat) => stepF rn rd o (d, lo + (j : Int))) o
def bestF (rn rd : Int) (lo : Int) (m k : Nat) : Int × Int := (List.range k).foldl (fun o (i : Nat) => rowF rn rd lo m (lo + (i : Int)) o) (lo, lo)
theorem rowF_succ (rn rd lo : Int) (m : Nat) (d : Int) (o : Int × Int) : rowF rn rd lo (m + 1) d o = stepF rn rd (rowF rn rd lo m d o) (d, lo + (m : Int)) := by
  unfold rowF; rw [List.range_succ, List.foldl_append]; rfl
theorem bestF_succ (rn rd lo : Int) (m k : Nat) : bestF rn rd lo m (k + 1) = rowF rn rd lo m (lo + (k : Int)) (bestF rn rd lo m k) := by
  unfold bestF; rw [List.range_succ, List.foldl_append]; rfl

set_option maxRecDepth 100000 in
set_option maxHeartbeats 1000000 in
theorem best_any (rn rd lo hi : Int) (w : World) (h1' : 0 ≤ rn) (h2' : rn ≤ 1000000000) (h3' : 0 ≤ rd) (h4' : rd ≤ 1000000000) (a1 : 1 ≤ lo) (a2 : lo ≤ hi) (a3 : hi ≤ 500) :
    Calls Try.prog 50 #[.agg #[.int .i64 rn, .int .i64 rd], .int .i64 lo, .int .i64 hi] w fun e w' =>
      e = .returned (.agg #[.int .i64 (bestF rn rd lo (hi - lo + 1).toNat (hi - lo + 1).toNat).1, .int .i64 (bestF rn rd lo (hi - lo + 1).toNat (hi - lo + 1).toNat).2]) ∧ Below w.heap.size w w' := by
  obtain ⟨m, hm⟩ : ∃ m : Nat, hi = lo + m - 1 := ⟨(hi - lo + 1).toNat, by omega⟩
  have hmm : (hi - lo + 1).toNat = m := by omega
  rw [hmm]
  clear hmm
  have hm1 : 1 ≤ (m : Int) := by omega
  have hm2 : lo + m ≤ 501 := by omega
  subst hm
  clear a2 a3
  go_enter Try.func50, Try.ntmps50
  go_wp2
  go_loopw [8] (fun i wr => ∃ k : Nat, k ≤ m ∧ i = .int .i64 (lo + k) ∧ Below w.heap.size w wr ∧ w.heap.size + 3 ≤ wr.heap.size ∧ Blk wr w.heap.size 35 #[.int .i64 rn, .int .i64 rd] ∧ Blk wr (w.heap.size + 1) 59 #[.int .i64 0, .int .i64 0] ∧
      ∃ o : Int × Int, o = bestF rn rd lo m k ∧ 1 ≤ o.1 ∧ o.1 ≤ 500 ∧ 1 ≤ o.2 ∧ o.2 ≤ 500 ∧ Blk wr (w.heap.size + 1 + 1) 59 #[.int .i64 o.1, .int .i64 o.2]) (fun i _ => (lo + m - intOf i).toNat)
  case atStart =>
    refine ⟨0, by omega, by simp, ?_, by simp, ?_, ?_, (lo, lo), rfl, a1, by simp; omega, a1, by simp; omega, ?_⟩
    · repeat' (first | exact Below.refl _ _ | assumption | refine below_drewN ?_ _ | refine Below.drew ?_ | refine Below.alloc ?_ (by first | omega | (simp; done) | (simp; omega)) _ | refine Below.setCell ?_ (by first | omega | (simp; done) | (simp; omega)) _)
    · repeat' (first | assumption | exact Blk.at_ _ (by first | rfl | (simp; done) | (simp; omega)) _ _ | refine Blk.drewN ?_ _ | refine Blk.drew ?_ | refine Blk.alloc ?_ _ | refine Blk.far ?_ (by first | omega | (simp; done) | (simp; omega)) _)
    · repeat' (first | assumption | exact Blk.at_ _ (by first | rfl | (simp; done) | (simp; omega)) _ _ | refine Blk.drewN ?_ _ | refine Blk.drew ?_ | refine Blk.alloc ?_ _ | refine Blk.far ?_ (by first | omega | (simp; done) | (simp; omega)) _)
    · repeat' (first | assumption | exact Blk.at_ _ (by first | rfl | (simp; done) | (simp; omega)) _ _ | refine Blk.drewN ?_ _ | refine Blk.drew ?_ | refine Blk.alloc ?_ _ | refine Blk.far ?_ (by first | omega | (simp; done) | (simp; omega)) _)
  case round =>
    obtain ⟨k, hk, rfl, hbel, hsz, hb0, hb1, o, ho, o1, o2, o3, o4, hb2⟩ := hrel
    have HO := Lib.hid ho
    clear ho
    by_cases hlt : k < m
    · go_wp2
      obtain ⟨wo, hwo⟩ : ∃ wo : World, wo = wr := ⟨_, rfl⟩
      subst hwo
      go_loopw [9] (fun i wr => ∃ j : Nat, j ≤ m ∧ i = .int .i64 (lo + j) ∧ Below w.heap.size w wr ∧ w.heap.size + 3 ≤ wr.heap.size ∧ Blk wr w.heap.size 35 #[.int .i64 rn, .int .i64 rd] ∧ Blk wr (w.heap.size + 1) 59 #[.int .i64 0, .int .i64 0] ∧
          ∃ q : Int × Int, q = rowF rn rd lo j (lo + k) o ∧ 1 ≤ q.1 ∧ q.1 ≤ 500 ∧ 1 ≤ q.2 ∧ q.2 ≤ 500 ∧ Blk wr (w.heap.size + 1 + 1) 59 #[.int .i64 q.1, .int .i64 q.2]) (fun i _ => (lo + m - intOf i).toNat)
      case atStart => exact ⟨0, by omega, by simp, hbel, hsz, hb0, hb1, o, rfl, o1, o2, o3, o4, hb2⟩
      case round =>
        obtain ⟨j, hj, rfl, hbel2, hsz2, hc0, hc1, q, hq, q1, q2, q3, q4, hc2⟩ := hrel
        have HQ := Lib.hid hq
        clear hq
        by_cases hlt2 : j < m
        · go_wp2
          have e1 : IntKind.i64.wrap (lo + (k : Int) + (lo + (j : Int))) = lo + (k : Int) + (lo + (j : Int)) := IntWalk.i64_in _ ⟨by omega, by omega⟩
          have e2 : IntKind.i64.wrap (q.1 + q.2) = q.1 + q.2 := IntWalk.i64_in _ ⟨by omega, by omega⟩
          cases hbt : betterB rn rd (lo + k, lo + j) q
          all_goals
            have HB := Lib.hid hbt
            clear hbt
            refine Fx.regionW (fun _ f w' => Below w.heap.size w w' ∧ w'.heap.size = wr.heap.size + 1 + (if f 3 then 7 else 0) + (if f 17 then 1 else 0) ∧ Blk w' w.heap.size 35 #[.int .i64 rn, .int .i64 rd] ∧ Blk w' (w.heap.size + 1) 59 #[.int .i64 0, .int .i64 0] ∧ Blk w' (w.heap.size + 1 + 1) 59 #[.int .i64 q.1, .int .i64 q.2] ∧ Blk w' wr.heap.size 59 #[.int .i64 (lo + k), .int .i64 (lo + j)] ∧ (f 17 = true → Blk w' (wr.heap.size + 8) 3 #[.int .i64 (cmpF rn rd (lo + k, lo + j) q), .int .i64 (cmpI (lo + k + (lo + j)) (q.1 + q.2)), .int .i64 (cmpI (lo + k) q.1)])) (by kernel_rfl) (by kernel_rfl) ?_ ?_
            · intro f hf0
              refine ⟨?_, by rw [hf0 3, hf0 17]; simp, ?_, ?_, ?_, ?_, fun h => by rw [hf0 17] at h; cases h⟩
              · repeat' (first | exact Below.refl _ _ | assumption | refine below_drewN ?_ _ | refine Below.drew ?_ | refine Below.alloc ?_ (by first | omega | (simp; done) | (simp; omega)) _ | refine Below.setCell ?_ (by first | omega | (simp; done) | (simp; omega)) _)
              · repeat' (first | assumption | exact Blk.at_ _ (by first | rfl | (simp; done) | (simp; omega)) _ _ | refine Blk.drewN ?_ _ | refine Blk.drew ?_ | refine Blk.alloc ?_ _ | refine Blk.far ?_ (by first | omega | (simp; done) | (simp; omega)) _)
              · repeat' (first | assumption | exact Blk.at_ _ (by first | rfl | (simp; done) | (simp; omega)) _ _ | refine Blk.drewN ?_ _ | refine Blk.drew ?_ | refine Blk.alloc ?_ _ | refine Blk.far ?_ (by first | omega | (simp; done) | (simp; omega)) _)
              · repeat' (first | assumption | exact Blk.at_ _ (by first | rfl | (simp; done) | (simp; omega)) _ _ | refine Blk.drewN ?_ _ | refine Blk.drew ?_ | refine Blk.alloc ?_ _ | refine Blk.far ?_ (by first | omega | (simp; done) | (simp; omega)) _)
              · repeat' (first | assumption | exact Blk.at_ _ (by first | rfl | (simp; done) | (simp; omega)) _ _ | refine Blk.drewN ?_ _ | refine Blk.drew ?_ | refine Blk.alloc ?_ _ | refine Blk.far ?_ (by first | omega | (simp; done) | (simp; omega)) _)
            repeat (first
              | (refine Fx.skip_ (by rfl) (fun f w h => h) ?_; simp only [Act.put, List.setIfInBounds_toArray, List.set_cons_zero, List.set_cons_succ])
              | (refine Fx.val_ ?_ (by rfl) ?_ (fun f w h => h) ?_
                 rotate_left
                 · intro f w' hD hk
                   obtain ⟨hb, hz, h1, h2, h3, h4, h5⟩ := id hD
                   have c0 : w'.cell? ⟨w.heap.size, 0, none⟩ = some (.int .i64 rn) := h1.cell 0
                   have c1 : w'.cell? ⟨w.heap.size, 1, none⟩ = some (.int .i64 rd) := h1.cell 1
                   have c2 : w'.cell? ⟨w.heap.size + 1 + 1, 0, none⟩ = some (.int .i64 q.1) := h3.cell 0
                   have c3 : w'.cell? ⟨w.heap.size + 1 + 1, 1, none⟩ = some (.int .i64 q.2) := h3.cell 1
                   have c4 : w'.cell? ⟨wr.heap.size, 0, none⟩ = some (.int .i64 (lo + k)) := h4.cell 0
                   have c5 : w'.cell? ⟨wr.heap.size, 1, none⟩ = some (.int .i64 (lo + j)) := h4.cell 1
                   clear hk hD hb hz h1 h2 h3 h4 h5
                   go_simp
                   try rfl
                 simp only [Act.put, List.setIfInBounds_toArray, List.set_cons_zero, List.set_cons_succ]))
            refine Fx.call_ (.int .i64 (cmpF rn rd (lo + k, lo + j) q)) ?_ ?_ (by rfl) ?_ ?_ ?_
            rotate_left 2
            · intro w'
              go_simp
              refine ⟨?_, ?_⟩ <;> rfl
            · intro f w' hD hk
              obtain ⟨hb, hz, h1, h2, h3, h4, h5⟩ := id hD
              have f3 : f 3 = false := hk.1
              have f17 : f 17 = false := hk.2.1 17 (by kernel_rfl)
              exact (compare_any rn rd (lo + k) (lo + j) q.1 q.2 _ h1' h2' h3' h4' (by omega) (by omega) (by omega) (by omega) (by omega) (by omega) (by omega) (by omega)).mono fun e w'' ⟨he, hw⟩ => ⟨he, hb.trans (hw.1.mono (by have := hb.size; omega)), by rw [hw.2, hz]; simp [Fx.add, f3, f17], h1.below hw.1 h1.lt, h2.below hw.1 h2.lt, h3.below hw.1 h3.lt, h4.below hw.1 h4.lt, fun h => by simp [Fx.add, f17] at h⟩
            simp only [Act.put, List.setIfInBounds_toArray, List.set_cons_zero, List.set_cons_succ]
            repeat (first
              | (refine Fx.skip_ (by rfl) (fun f w h => h) ?_; simp only [Act.put, List.setIfInBounds_toArray, List.set_cons_zero, List.set_cons_succ])
              | (refine Fx.val_ ?_ (by rfl) ?_ (fun f w h => h) ?_
                 rotate_left
                 · intro f w' hD hk
                   obtain ⟨hb, hz, h1, h2, h3, h4, h5⟩ := id hD
                   have c0 : w'.cell? ⟨w.heap.size, 0, none⟩ = some (.int .i64 rn) := h1.cell 0
                   have c1 : w'.cell? ⟨w.heap.size, 1, none⟩ = some (.int .i64 rd) := h1.cell 1
                   have c2 : w'.cell? ⟨w.heap.size + 1 + 1, 0, none⟩ = some (.int .i64 q.1) := h3.cell 0
                   have c3 : w'.cell? ⟨w.heap.size + 1 + 1, 1, none⟩ = some (.int .i64 q.2) := h3.cell 1
                   have c4 : w'.cell? ⟨wr.heap.size, 0, none⟩ = some (.int .i64 (lo + k)) := h4.cell 0
                   have c5 : w'.cell? ⟨wr.heap.size, 1, none⟩ = some (.int .i64 (lo + j)) := h4.cell 1
                   clear hk hD hb hz h1 h2 h3 h4 h5
                   go_simp
                   try rfl
                 simp only [Act.put, List.setIfInBounds_toArray, List.set_cons_zero, List.set_cons_succ]))
            refine Fx.call_ (.int .i64 (cmpI (lo + k + (lo + j)) (q.1 + q.2))) ?_ ?_ (by rfl) ?_ ?_ ?_
            rotate_left 2
            · intro w'
              go_simp
              refine ⟨?_, ?_⟩ <;> rfl
            · intro f w' hD hk
              exact (cmp_any _ _ _).mono fun e w'' ⟨he, hw⟩ => ⟨he, hw ▸ hD⟩
            simp only [Act.put, List.setIfInBounds_toArray, List.set_cons_zero, List.set_cons_succ]
            repeat (first
              | (refine Fx.skip_ (by rfl) (fun f w h => h) ?_; simp only [Act.put, List.setIfInBounds_toArray, List.set_cons_zero, List.set_cons_succ])
              | (refine Fx.val_ ?_ (by rfl) ?_ (fun f w h => h) ?_
                 rotate_left
                 · intro f w' hD hk
                   obtain ⟨hb, hz, h1, h2, h3, h4, h5⟩ := id hD
                   have c0 : w'.cell? ⟨w.heap.size, 0, none⟩ = some (.int .i64 rn) := h1.cell 0
                   have c1 : w'.cell? ⟨w.heap.size, 1, none⟩ = some (.int .i64 rd) := h1.cell 1
                   have c2 : w'.cell? ⟨w.heap.size + 1 + 1, 0, none⟩ = some (.int .i64 q.1) := h3.cell 0
                   have c3 : w'.cell? ⟨w.heap.size + 1 + 1, 1, none⟩ = some (.int .i64 q.2) := h3.cell 1
                   have c4 : w'.cell? ⟨wr.heap.size, 0, none⟩ = some (.int .i64 (lo + k)) := h4.cell 0
                   have c5 : w'.cell? ⟨wr.heap.size, 1, none⟩ = some (.int .i64 (lo + j)) := h4.cell 1
                   clear hk hD hb hz h1 h2 h3 h4 h5
                   go_simp
                   try rfl
                 simp only [Act.put, List.setIfInBounds_toArray, List.set_cons_zero, List.set_cons_succ]))
            refine Fx.call_ (.int .i64 (cmpI (lo + k) q.1)) ?_ ?_ (by rfl) ?_ ?_ ?_
            rotate_left 2
            · intro w'
              go_simp
              refine ⟨?_, ?_⟩ <;> rfl
            · intro f w' hD hk
              exact (cmp_any _ _ _).mono fun e w'' ⟨he, hw⟩ => ⟨he, hw ▸ hD⟩
            simp only [Act.put, List.setIfInBounds_toArray, List.set_cons_zero, List.set_cons_succ]
            refine Fx.eff_ (.slice (some ⟨wr.heap.size + 8, 0, none⟩) 3 3) (fun w' => w'.alloc (.cells #[.int .i64 (cmpF rn rd (lo + k, lo + j) q), .int .i64 (cmpI (lo + k + (lo + j)) (q.1 + q.2)), .int .i64 (cmpI (lo + k) q.1)] 3)) (by rfl) ?_ ?_ ?_
            · intro f w' hD hk
              obtain ⟨hb, hz, h1, h2, h3, h4, h5⟩ := id hD
              have f17 : f 17 = false := hk.1
              have f3 : f 3 = true := hk.2.2.1 3 (by kernel_rfl)
              rw [f3, f17] at hz
              simp only [if_true, Bool.false_eq_true, if_false, Nat.add_zero] at hz
              have hz' : w'.heap.size = wr.heap.size + 8 := by omega
              clear hk hD hb hz h1 h2 h3 h4 h5 f3 f17
              go_simp
              try (rw [hz'])
            · intro f w' hD hk
              obtain ⟨hb, hz, h1, h2, h3, h4, h5⟩ := id hD
              have f17 : f 17 = false := hk.1
              have f3 : f 3 = true := hk.2.2.1 3 (by kernel_rfl)
              rw [f3, f17] at hz
              simp only [if_true, Bool.false_eq_true, if_false, Nat.add_zero] at hz
              have hz' : w'.heap.size = wr.heap.size + 8 := by omega
              exact ⟨hb.alloc hb.size _, by simp only [World.size_alloc]; rw [hz]; simp [Fx.add, f3], h1.alloc _, h2.alloc _, h3.alloc _, h4.alloc _, fun _ => Blk.at_ _ hz' _ _⟩
            simp only [Act.put, List.setIfInBounds_toArray, List.set_cons_zero, List.set_cons_succ]
            refine Fx.call_ (.int .i64 (orF (cmpF rn rd (lo + k, lo + j) q) (cmpI (lo + k + (lo + j)) (q.1 + q.2)) (cmpI (lo + k) q.1))) ?_ ?_ (by rfl) ?_ ?_ ?_
            rotate_left 2
            · intro w'
              go_simp
              refine ⟨?_, ?_⟩ <;> rfl
            · intro f w' hD hk
              obtain ⟨hb, hz, h1, h2, h3, h4, h5⟩ := id hD
              have f17 : f 17 = true := hk.2.2.1 17 (by kernel_rfl)
              exact (or_any _ _ _ _ _ (w'.heap.size) _ ⟨rfl, fun _ => ⟨_, 0, rfl, (h5 f17).lt, fun i u hu => by rw [Nat.zero_add, (h5 f17).cell i]; simpa using hu⟩⟩).mono fun e w'' ⟨he, hw⟩ => ⟨he, hw ▸ hD⟩
            simp only [Act.put, List.setIfInBounds_toArray, List.set_cons_zero, List.set_cons_succ]
            repeat (first
              | (refine Fx.skip_ (by rfl) (fun f w h => h) ?_; simp only [Act.put, List.setIfInBounds_toArray, List.set_cons_zero, List.set_cons_succ])
              | (refine Fx.val_ ?_ (by rfl) ?_ (fun f w h => h) ?_
                 rotate_left
                 · intro f w' hD hk
                   obtain ⟨hb, hz, h1, h2, h3, h4, h5⟩ := id hD
                   have c0 : w'.cell? ⟨w.heap.size, 0, none⟩ = some (.int .i64 rn) := h1.cell 0
                   have c1 : w'.cell? ⟨w.heap.size, 1, none⟩ = some (.int .i64 rd) := h1.cell 1
                   have c2 : w'.cell? ⟨w.heap.size + 1 + 1, 0, none⟩ = some (.int .i64 q.1) := h3.cell 0
                   have c3 : w'.cell? ⟨w.heap.size + 1 + 1, 1, none⟩ = some (.int .i64 q.2) := h3.cell 1
                   have c4 : w'.cell? ⟨wr.heap.size, 0, none⟩ = some (.int .i64 (lo + k)) := h4.cell 0
                   have c5 : w'.cell? ⟨wr.heap.size, 1, none⟩ = some (.int .i64 (lo + j)) := h4.cell 1
                   clear hk hD hb hz h1 h2 h3 h4 h5
                   go_simp
                   try rfl
                 simp only [Act.put, List.setIfInBounds_toArray, List.set_cons_zero, List.set_cons_succ]))
            refine Fx.nil_ ?_
            intro f w1 hall hD
            obtain ⟨hb, hz, h1, h2, h3, h4, _⟩ := hD
            try clear hall
            try clear hall
            clear e1 e2
            have hzz : wr.heap.size + 1 ≤ w1.heap.size := by rw [hz]; omega
            have HZ := Lib.hid hz
            clear hz
            have r0 : w1.cell? ⟨wr.heap.size, 0, none⟩ = some (.int .i64 (lo + k)) := h4.cell 0
            have r1 : w1.cell? ⟨wr.heap.size, 1, none⟩ = some (.int .i64 (lo + j)) := h4.cell 1
            have s0 : w1.cell? ⟨w.heap.size + 1 + 1, 0, none⟩ = some (.int .i64 q.1) := h3.cell 0
            have s1 : w1.cell? ⟨w.heap.size + 1 + 1, 1, none⟩ = some (.int .i64 q.2) := h3.cell 1
            have z0 := h3.frozen 0
            have z1 := h3.frozen 1
            have hT := HB.out
            simp only [betterB, decide_eq_false_iff_not, decide_eq_true_eq] at hT
            have hstep : rowF rn rd lo (j + 1) (lo + k) o = stepF rn rd q (lo + k, lo + j) := by rw [rowF_succ, ← HQ.out]
            have HST := Lib.hid hstep
            clear hstep
            go_wp2
            go_roundw
            case rel =>
              first
                | (refine ⟨j + 1, by omega, by go_num, hb, by omega, h1, h2, q, ?_, q1, q2, q3, q4, h3⟩
                   rw [HST.out, stepF, HB.out]; rfl)
                | (refine ⟨j + 1, by omega, by go_num, (hb.setCell (p := ⟨w.heap.size + 1 + 1, 0, none⟩) (by simp; omega) _).setCell (p := ⟨w.heap.size + 1 + 1, 1, none⟩) (by simp; omega) _, by simp [World.setCell]; omega, (h1.far (by simp; omega) _).far (by simp; omega) _, (h2.far (by simp) _).far (by simp) _, (lo + k, lo + j), ?_, by simp; omega, by simp; omega, by simp; omega, by simp; omega, ?_⟩
                   · rw [HST.out, stepF, HB.out]; rfl
                   · exact (h3.set_ 0 _).set_ 1 _)
            case measure => simp [intOf]; omega
        · have hjm : j = m := by omega
          have HK : Hid (bestF rn rd lo m (k + 1) = q) := by show _ = _; rw [bestF_succ, ← HO.out, HQ.out, hjm]
          clear hjm
          go_wp2
          go_roundw
          case rel => exact ⟨k + 1, by omega, by go_num, hbel2, hsz2, hc0, hc1, q, HK.out.symm, q1, q2, q3, q4, hc2⟩
          case measure => simp [intOf]; omega
    · have hkm : k = m := by omega
      have HK : Hid (bestF rn rd lo m m = o) := by show _ = _; rw [HO.out, hkm]
      clear hkm
      have s0 : wr.cell? ⟨w.heap.size + 1 + 1, 0, none⟩ = some (.int .i64 o.1) := hb2.cell 0
      have s1 : wr.cell? ⟨w.heap.size + 1 + 1, 1, none⟩ = some (.int .i64 o.2) := hb2.cell 1
      have u0 : wr.cell? ⟨w.heap.size + 1, 0, none⟩ = some (.int .i64 0) := hb1.cell 0
      have u1 : wr.cell? ⟨w.heap.size + 1, 1, none⟩ = some (.int .i64 0) := hb1.cell 1
      have z0 := hb1.frozen 0
      have z1 := hb1.frozen 1
      go_wp2
      exact bodyPost_ret (v := .agg #[.int .i64 o.1, .int .i64 o.2]) (by simp [results, Try.results50, go_sem, u0, u1]) rfl ⟨by rw [HK.out], (hbel.setCell (p := ⟨w.heap.size + 1, 0, none⟩) (by simp) _).setCell (p := ⟨w.heap.size + 1, 1, none⟩) (by simp) _⟩

end Go.Proofs.Ytfigbdhfmlhjdaa

end

section
/- Contracts of the check of a search for gears, and of the best pair. -/
namespace Go.Proofs.Ytfigbdhfmlhjdaa
open Go.RowKit

def searchErr (rn rd lo hi : Int) : Int :=
  if fracErr rn rd ≠ 0 then fracErr rn rd else if rn ≤ 0 ∨ withinB lo 1 500 = false ∨ withinB hi 1 500 = false then 2 else if hi < lo then 9 else 0

set_option maxHeartbeats 1000000 in
theorem checkbest_any (rn rd lo hi : Int) (w : World) (h1 : -9223372036854775808 ≤ rn) (h2 : rn ≤ 9223372036854775807) (h3 : -9223372036854775808 ≤ rd) (h4 : rd ≤ 9223372036854775807) :
    Calls Try.prog 49 #[.agg #[.int .i64 rn, .int .i64 rd], .int .i64 lo, .int .i64 hi] w fun e w' => e = .returned (.int .i64 (searchErr rn rd lo hi)) ∧ Below w.heap.size w w' := by
  have hcs : (fracErr rn rd ≠ 0) ∨ (fracErr rn rd = 0 ∧ rn ≤ 0) ∨ (fracErr rn rd = 0 ∧ ¬ rn ≤ 0 ∧ withinB lo 1 500 = false) ∨ (fracErr rn rd = 0 ∧ ¬ rn ≤ 0 ∧ withinB lo 1 500 = true ∧ withinB hi 1 500 = false) ∨
      (fracErr rn rd = 0 ∧ ¬ rn ≤ 0 ∧ withinB lo 1 500 = true ∧ withinB hi 1 500 = true ∧ hi < lo) ∨ (fracErr rn rd = 0 ∧ ¬ rn ≤ 0 ∧ withinB lo 1 500 = true ∧ withinB hi 1 500 = true ∧ ¬ hi < lo) := by
    by_cases a : fracErr rn rd = 0 <;> by_cases b : rn ≤ 0 <;> cases withinB lo 1 500 <;> cases withinB hi 1 500 <;> by_cases c : hi < lo <;> simp [a, b, c]
  obtain ⟨E, hE⟩ : ∃ E, searchErr rn rd lo hi = E := ⟨_, rfl⟩
  rw [hE]
  have HE := Lib.hid hE
  clear hE
  go_enter Try.func49, Try.ntmps49
  go_wp2_with fail
  refine (checkfrac_any _ _ _ h1 h2 h3 h4).mono ?_
  rintro e w1 ⟨rfl, hb⟩
  simp only [World.size_alloc] at hb
  have c0 : w1.cell? ⟨w.heap.size, 0, none⟩ = some (.int .i64 rn) := by rw [hb.cell (by simp)]; go_simp
  have c1 : w1.cell? ⟨w.heap.size, 1, none⟩ = some (.int .i64 rd) := by rw [hb.cell (by simp)]; go_simp
  have q1 : Below w.heap.size w w1 := ((Below.refl _ _).alloc (Nat.le_refl _) _).trans (hb.mono (by omega))
  have HB := Lib.hid q1
  clear q1 hb
  have HC := Lib.hid hcs
  clear hcs
  rcases HC.out with a | ⟨a, b⟩ | ⟨a, b, c⟩ | ⟨a, b, c, d⟩ | ⟨a, b, c, d, g⟩ | ⟨a, b, c, d, g⟩
  · have ha : (fracErr rn rd != 0) = true := bne_iff_ne.2 a
    have hv : E = fracErr rn rd := by rw [← HE.out]; unfold searchErr; rw [if_pos a]
    have HV := Lib.hid hv
    clear hv a
    go_wp2
    go_ret
    exact ⟨ret_int HV.out.symm, HB.out⟩
  all_goals
    clear HC
    go_wp2_with (first | (go_at_call 28; refine (withinsup_is _ _ _ _ (by assumption) _).mono ?_; rintro e w' ⟨rfl, rfl⟩))
    go_ret
    have hx := HE.out
    unfold searchErr at hx
    rw [if_neg (by rw [a]; simp)] at hx
    exact ⟨ret_int (by rw [← hx]; (repeat' split) <;> simp_all <;> omega), HB.out⟩

theorem searchErr_ok {rn rd lo hi : Int} (h : searchErr rn rd lo hi = 0) : fracErr rn rd = 0 ∧ 1 ≤ rn ∧ rn ≤ 1000000000 ∧ 1 ≤ rd ∧ rd ≤ 1000000000 ∧ 1 ≤ lo ∧ lo ≤ hi ∧ hi ≤ 500 := by
  unfold searchErr at h
  split at h
  · rename_i h0; exact absurd h h0
  · rename_i h0
    have hf : fracErr rn rd = 0 := by simpa using h0
    have hf' := hf
    unfold fracErr at hf'
    split at hf'
    · simp at hf'
    · split at hf'
      · simp at hf'
      · split at h
        · simp at h
        · split at h
          · simp at h
          · rename_i g1 g2 g3 g4
            have b1 : withinB lo 1 500 = true := by cases hx : withinB lo 1 500 <;> simp_all
            have b2 : withinB hi 1 500 = true := by cases hx : withinB hi 1 500 <;> simp_all
            rw [withinB_iff] at b1 b2
            simp only [not_or] at g1 g2 g3
            refine ⟨hf, by omega, by omega, by omega, by omega, by omega, by omega, by omega⟩

/-- The best pair between two numbers of teeth. -/
def bestP (rn rd lo hi : Int) : Int × Int := bestF rn rd lo (hi - lo + 1).toNat (hi - lo + 1).toNat

def PairPost (rn rd lo hi : Int) (w : World) (e : Ending) (w' : World) : Prop :=
  Below w.heap.size w w' ∧ (searchErr rn rd lo hi ≠ 0 → e = .returned (.tuple #[.agg #[.int .i64 0, .int .i64 0], .int .i64 (searchErr rn rd lo hi)])) ∧
  (searchErr rn rd lo hi = 0 → e = .returned (.tuple #[.agg #[.int .i64 (bestP rn rd lo hi).1, .int .i64 (bestP rn rd lo hi).2], .int .i64 0]))

set_option maxHeartbeats 1000000 in
theorem bestpair_any (rn rd lo hi : Int) (w : World) (h1 : -9223372036854775808 ≤ rn) (h2 : rn ≤ 9223372036854775807) (h3 : -9223372036854775808 ≤ rd) (h4 : rd ≤ 9223372036854775807) :
    Calls Try.prog 24 #[.agg #[.int .i64 rn, .int .i64 rd], .int .i64 lo, .int .i64 hi] w (PairPost rn rd lo hi w) := by
  obtain ⟨E, hE⟩ : ∃ E, searchErr rn rd lo hi = E := ⟨_, rfl⟩
  have HE := Lib.hid hE
  go_enter Try.func24, Try.ntmps24
  go_wp2_with fail
  refine (checkbest_any _ _ _ _ _ h1 h2 h3 h4).mono ?_
  rintro e w1 ⟨rfl, hb⟩
  rw [hE]
  clear hE
  simp only [World.size_alloc] at hb
  have c0 : w1.cell? ⟨w.heap.size, 0, none⟩ = some (.int .i64 rn) := by rw [hb.cell (by simp; omega)]; go_simp
  have c1 : w1.cell? ⟨w.heap.size, 1, none⟩ = some (.int .i64 rd) := by rw [hb.cell (by simp; omega)]; go_simp
  have k : Blk w1 (w.heap.size + 1) 59 #[.int .i64 0, .int .i64 0] := Blk.below (Blk.at_ _ (by simp) _ _) hb (by omega)
  have q1 : Below w.heap.size w w1 := (((Below.refl _ _).alloc (Nat.le_refl _) _).alloc (by simp) _).trans (hb.mono (by omega))
  have d0 : w1.cell? ⟨w.heap.size + 1, 0, none⟩ = some (.int .i64 0) := k.cell 0
  have d1 : w1.cell? ⟨w.heap.size + 1, 1, none⟩ = some (.int .i64 0) := k.cell 1
  have z0 := k.frozen 0
  have z1 := k.frozen 1
  have HB := Lib.hid q1
  clear q1 hb
  by_cases he : E = 0
  · have ok := searchErr_ok (HE.out.trans he)
    have e0 : (E != 0) = false := by simp [he]
    subst he
    go_wp2_with fail
    refine (best_any rn rd lo hi _ (by omega) (by omega) (by omega) (by omega) (by omega) (by omega) (by omega)).mono ?_
    rintro e w2 ⟨rfl, hb2⟩
    have k := k.below hb2 k.lt
    have d0 : w2.cell? ⟨w.heap.size + 1, 0, none⟩ = some (.int .i64 0) := k.cell 0
    have d1 : w2.cell? ⟨w.heap.size + 1, 1, none⟩ = some (.int .i64 0) := k.cell 1
    have z0 := k.frozen 0
    have z1 := k.frozen 1
    have q2 := HB.out.trans (hb2.mono (by have := HB.out.size; omega))
    have HB2 := Lib.hid q2
    clear q2 hb2
    obtain ⟨P, hP⟩ : ∃ P, bestF rn rd lo (hi - lo + 1).toNat (hi - lo + 1).toNat = P := ⟨_, rfl⟩
    rw [hP]
    have HP := Lib.hid hP
    clear hP
    go_wp2
    have kk := (k.set_ 0 (.int .i64 (P.1))).set_ 1 (.int .i64 (P.2))
    have r0 := kk.cell 0
    have r1 := kk.cell 1
    simp only [List.setIfInBounds_toArray, List.set_cons_zero, List.set_cons_succ, List.getElem?_toArray, List.getElem?_cons_zero, List.getElem?_cons_succ] at r0 r1
    exact bodyPost_ret (v := .tuple #[.agg #[.int .i64 (P.1), .int .i64 (P.2)], .int .i64 0]) (by simp [results, Try.results24, go_sem, r0, r1]) rfl
      ⟨(HB2.out.setCell (p := ⟨w.heap.size + 1, 0, none⟩) (by simp) _).setCell (p := ⟨w.heap.size + 1, 1, none⟩) (by simp) _, fun h => absurd HE.out h, fun _ => by unfold bestP; rw [HP.out]⟩
  · have e0 : (E != 0) = true := by simp [he]
    go_wp2
    have kk := (k.set_ 0 (.int .i64 (0))).set_ 1 (.int .i64 (0))
    have r0 := kk.cell 0
    have r1 := kk.cell 1
    simp only [List.setIfInBounds_toArray, List.set_cons_zero, List.set_cons_succ, List.getElem?_toArray, List.getElem?_cons_zero, List.getElem?_cons_succ] at r0 r1
    exact bodyPost_ret (v := .tuple #[.agg #[.int .i64 (0), .int .i64 (0)], .int .i64 E]) (by simp [results, Try.results24, go_sem, r0, r1]) rfl
      ⟨(HB.out.setCell (p := ⟨w.heap.size + 1, 0, none⟩) (by simp) _).setCell (p := ⟨w.heap.size + 1, 1, none⟩) (by simp) _, fun _ => by rw [HE.out], fun h => absurd (HE.out.symm.trans h) he⟩

end Go.Proofs.Ytfigbdhfmlhjdaa

end

section
/- Contracts of the reference's comparison of pairs of gears, and of its search. -/
namespace Go.Proofs.Ytfigbdhfmlhjdaa
open Go.RowKit

theorem lowest_any (a b : Int) (w : World) (h1 : -9223372036854775808 < a) (h2 : a ≤ 9223372036854775807) (h3 : 1 ≤ b) (h4 : b ≤ 9223372036854775807) :
    Calls Try.prog 61 #[.int .i64 a, .int .i64 b] w fun e w' => e = .returned (.agg #[.int .i64 (a / (Int.gcd a b : Int)), .int .i64 (b / (Int.gcd a b : Int))]) ∧ Below w.heap.size w w' := by
  have hg := gcd_small a b (by omega) h4
  have hp : 0 < Int.gcd a b := Int.gcd_pos_of_ne_zero_right a (by omega)
  have d1 := div_gcd_in a b h1 h2 (by omega)
  have d2 := div_gcd_in b a (by omega) h4 (by rw [Int.gcd_comm]; omega)
  rw [Int.gcd_comm b a] at d2
  have e1 := tdiv_gcd_left a b
  have e2 := tdiv_gcd_right a b
  have g0 : ¬ (Int.gcd a b : Int) = 0 := by omega
  go_enter Try.func61, Try.ntmps61
  go_wp2_with fail
  refine (gcdref_any _ _ _ (by omega) (by omega) (by omega) (by omega)).mono ?_
  rintro e w' ⟨rfl, nq, rfl⟩
  rw [hg]
  go_wp2_with fail
  go_region
  all_goals go_wp2
  all_goals exact bodyPost_ret (v := .agg #[.int .i64 (a / (Int.gcd a b : Int)), .int .i64 (b / (Int.gcd a b : Int))]) (by simp [results, Try.results61, go_sem]) rfl ⟨rfl, by repeat' (first | exact Below.refl _ _ | exact HB0.out | refine below_drewN ?_ _ | refine Below.drew ?_ | refine Below.alloc ?_ (by first | omega | (simp; done) | (simp; omega) | (simp [World.setCell]; omega)) _ | refine Below.setCell ?_ (by first | omega | (simp; done) | (simp; omega)) _ | assumption)⟩


def nearB (rn rd : Int) (g h : Int × Int) : Bool := decide (offF rn rd g.1 g.2 * h.2 < offF rn rd h.1 h.2 * g.2)




/-- The reference's search: by sums, then by the driver. -/
def rstepF (rn rd lo hi : Int) (o : Int × Int) (g : Int × Int) : Int × Int := if withinB g.2 lo hi && nearB rn rd g o then g else o
def rrowF (rn rd lo hi : Int) (s : Int) (m : Nat) (o : Int × Int) : Int × Int := (List.range m).foldl (fun o (i : Nat) => rstepF rn rd lo hi o (lo + (i : Int), s - (lo + (i : Int)))) o
def rbestF (rn rd lo hi : Int) (m k : Nat) : Int × Int := (List.range k).foldl (fun o (j : Nat) => rrowF rn rd lo hi (2 * lo + (j : Int)) m o) (lo, lo)
end Go.Proofs.Ytfigbdhfmlhjdaa

end
