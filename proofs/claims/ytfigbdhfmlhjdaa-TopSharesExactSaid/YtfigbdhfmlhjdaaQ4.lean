import Derived.Test.YtfigbdhfmlhjdaaQ1
import Derived.Test.YtfigbdhfmlhjdaaQ2

section
/- Contracts of the checks of fractions and of functions that return fractions in lowest terms. -/
namespace Go.Proofs.Ytfigbdhfmlhjdaa
open Go.RowKit

/-- The error of a fraction. -/
def fracErr (n d : Int) : Int := if d < 1 ∨ Int.gcd n d ≠ 1 then 3 else if n < -1000000000 ∨ 1000000000 < n ∨ 1000000000 < d then 2 else 0

theorem gcd_small (n d : Int) (h : 1 ≤ d) (h4 : d ≤ 9223372036854775807) : wrap64 (Int.gcd n d : Int) = (Int.gcd n d : Int) := by
  have h5 : Int.gcd n d ∣ d.natAbs := Int.gcd_dvd_natAbs_right n d
  have h6 := Nat.le_of_dvd (by omega) h5
  exact IntWalk.wrap64_in _ ⟨by omega, by omega⟩

theorem checkfrac_any (n d : Int) (w : World) (h1 : -9223372036854775808 ≤ n) (h2 : n ≤ 9223372036854775807) (h3 : -9223372036854775808 ≤ d) (h4 : d ≤ 9223372036854775807) :
    Calls Try.prog 65 #[.agg #[.int .i64 n, .int .i64 d]] w fun e w' => e = .returned (.int .i64 (fracErr n d)) ∧ Below w.heap.size w w' := by
  by_cases hd : d < 1
  · go_enter Try.func65, Try.ntmps65
    go_wp2
    go_ret
    exact ⟨ret_int (by simp [fracErr, hd]), (Below.refl _ _).alloc (Nat.le_refl _) _⟩
  · have hg := gcd_small n d (by omega) h4
    go_enter Try.func65, Try.ntmps65
    go_wp2_with (first | (go_at_call 66; refine (divisor_any _ _ _ (by omega) (by omega) (by omega) (by omega)).mono ?_; rintro e w' ⟨rfl, rfl⟩) | (go_at_call 76; refine (between_any _ _ _ _).mono ?_; rintro e w' ⟨rfl, rfl⟩))
    all_goals go_ret
    all_goals (refine ⟨ret_int (b := fracErr n d) ?_, (Below.refl _ _).alloc (Nat.le_refl _) _⟩; unfold fracErr; simp_all [withinB]; try omega)

theorem checkfracref_any (n d : Int) (w : World) (h1 : -9223372036854775808 ≤ n) (h2 : n ≤ 9223372036854775807) (h3 : -9223372036854775808 ≤ d) (h4 : d ≤ 9223372036854775807) :
    Calls Try.prog 17 #[.agg #[.int .i64 n, .int .i64 d]] w fun e w' => e = .returned (.int .i64 (fracErr n d)) ∧ Below w.heap.size w w' := by
  by_cases hd : d < 1
  · go_enter Try.func17, Try.ntmps17
    go_wp2
    go_ret
    exact ⟨ret_int (by simp [fracErr, hd]), (Below.refl _ _).alloc (Nat.le_refl _) _⟩
  · have hg := gcd_small n d (by omega) h4
    go_enter Try.func17, Try.ntmps17
    go_wp2_with (first | (go_at_call 20; refine (gcdref_any _ _ _ (by omega) (by omega) (by omega) (by omega)).mono ?_; rintro e w' ⟨rfl, nq, rfl⟩))
    all_goals go_ret
    all_goals (refine ⟨ret_int (b := fracErr n d) ?_, below_drewN ((Below.refl _ _).alloc (Nat.le_refl _) _) _⟩; unfold fracErr; simp_all; try omega)

theorem div_gcd_in (a b : Int) (h1 : -9223372036854775808 < a) (h2 : a ≤ 9223372036854775807) (hg : (Int.gcd a b : Int) ≠ 0) : -9223372036854775808 < a / (Int.gcd a b : Int) ∧ a / (Int.gcd a b : Int) ≤ 9223372036854775807 := by
  have h3 : (Int.gcd a b : Int) ∣ a := Int.gcd_dvd_left a b
  have h4 := Int.natAbs_ediv_of_dvd h3
  have h5 : (a / (Int.gcd a b : Int)).natAbs ≤ a.natAbs := by rw [h4]; exact Nat.div_le_self _ _
  omega

theorem tdiv_gcd_left (a b : Int) : a.tdiv (Int.gcd a b : Int) = a / (Int.gcd a b : Int) := Int.tdiv_eq_ediv_of_dvd (Int.gcd_dvd_left a b)
theorem tdiv_gcd_right (a b : Int) : b.tdiv (Int.gcd a b : Int) = b / (Int.gcd a b : Int) := Int.tdiv_eq_ediv_of_dvd (Int.gcd_dvd_right a b)

/-- Whether a fraction in lowest terms is small. -/
def smallB (a b : Int) : Bool := withinB (a / (Int.gcd a b : Int)) (-1000000000) 1000000000 && decide (b / (Int.gcd a b : Int) ≤ 1000000000)

theorem small_any (a b : Int) (w : World) (h1 : -9223372036854775808 < a) (h2 : a ≤ 9223372036854775807) (h3 : 1 ≤ b) (h4 : b ≤ 9223372036854775807) :
    Calls Try.prog 53 #[.int .i64 a, .int .i64 b] w fun e w' => e = .returned (.tuple #[.agg #[.int .i64 (a / (Int.gcd a b : Int)), .int .i64 (b / (Int.gcd a b : Int))], .bool (smallB a b)]) ∧ Below w.heap.size w w' := by
  have hg := gcd_small a b (by omega) h4
  have hp : 0 < Int.gcd a b := Int.gcd_pos_of_ne_zero_right a (by omega)
  have d1 := div_gcd_in a b h1 h2 (by omega)
  have d2 := div_gcd_in b a (by omega) h4 (by rw [Int.gcd_comm]; omega)
  rw [Int.gcd_comm b a] at d2
  have e1 := tdiv_gcd_left a b
  have e2 := tdiv_gcd_right a b
  go_enter Try.func53, Try.ntmps53
  go_wp2_with fail
  refine (gcdsup_any _ _ _ (by omega) (by omega) (by omega) (by omega)).mono ?_
  rintro e w' ⟨rfl, nq, rfl⟩
  go_wp2_with fail
  go_region
  go_wp2_with fail
  cases hw : withinB (a / (Int.gcd a b : Int)) (-1000000000) 1000000000
  all_goals
    have HW := Lib.hid hw
    clear hw
    refine Fx.region (fun f w' => Below w.heap.size w w' ∧ Blk w' (w.heap.size + 1) 35 #[.int .i64 (a / (Int.gcd a b : Int)), .int .i64 (b / (Int.gcd a b : Int))] ∧ Blk w' w.heap.size 35 (if f 9 then #[.int .i64 (a / (Int.gcd a b : Int)), .int .i64 (b / (Int.gcd a b : Int))] else #[.int .i64 0, .int .i64 0])) (by kernel_rfl) (by kernel_rfl) ?_ ?_
    · intro f hf0
      refine ⟨below_drewN ((below_drewN ((Below.refl _ _).alloc (Nat.le_refl _) _) _).alloc (by simp) _) _, ?_, ?_⟩
      · exact (Blk.at_ _ (by simp) _ _).drewN _
      · rw [hf0 9]; exact (((Blk.new _ _ _).drewN _).alloc _).drewN _
    repeat (first
      | (refine Fx.skip_ (by rfl) (fun f w h => h) ?_; simp only [Act.put, List.setIfInBounds_toArray, List.set_cons_zero, List.set_cons_succ])
      | (refine Fx.val_ ?_ (by rfl) ?_ (fun f w h => h) ?_
         rotate_left
         · intro f w' hD hk
           obtain ⟨hb, h1, h2⟩ := id hD
           have c0 : w'.cell? ⟨w.heap.size + 1, 0, none⟩ = some (.int .i64 (a / (Int.gcd a b : Int))) := h1.cell 0
           have c1 : w'.cell? ⟨w.heap.size + 1, 1, none⟩ = some (.int .i64 (b / (Int.gcd a b : Int))) := h1.cell 1
           clear hk hD hb h1 h2
           go_simp
           try rfl
         simp only [Act.put, List.setIfInBounds_toArray, List.set_cons_zero, List.set_cons_succ]))
    refine Fx.call_ (.bool (withinB (a / (Int.gcd a b : Int)) (-1000000000) 1000000000)) ?_ ?_ (by rfl) ?_ ?_ ?_
    rotate_left 2
    · intro w'
      go_simp
      refine ⟨?_, ?_⟩ <;> rfl
    · intro f w' hD hk
      exact (withinsup_any _ _ _ _).mono fun e w'' ⟨he, hw⟩ => ⟨he, hw ▸ hD⟩
    simp only [Act.put, List.setIfInBounds_toArray, List.set_cons_zero, List.set_cons_succ]
    rw [HW.out]
    repeat (first
      | (refine Fx.skip_ (by rfl) (fun f w h => h) ?_; simp only [Act.put, List.setIfInBounds_toArray, List.set_cons_zero, List.set_cons_succ])
      | (refine Fx.val_ ?_ (by rfl) ?_ (fun f w h => h) ?_
         rotate_left
         · intro f w' hD hk
           obtain ⟨hb, h1, h2⟩ := id hD
           have c0 : w'.cell? ⟨w.heap.size + 1, 0, none⟩ = some (.int .i64 (a / (Int.gcd a b : Int))) := h1.cell 0
           have c1 : w'.cell? ⟨w.heap.size + 1, 1, none⟩ = some (.int .i64 (b / (Int.gcd a b : Int))) := h1.cell 1
           clear hk hD hb h1 h2
           go_simp
           try rfl
         simp only [Act.put, List.setIfInBounds_toArray, List.set_cons_zero, List.set_cons_succ]))
    refine Fx.store_ (fun w' => (w'.setCell ⟨w.heap.size, 0, none⟩ (.int .i64 (a / (Int.gcd a b : Int)))).setCell ⟨w.heap.size, 1, none⟩ (.int .i64 (b / (Int.gcd a b : Int)))) (by rfl) ?_ ?_ ?_
    · intro f w' hD hk
      obtain ⟨hb, h1, h2⟩ := id hD
      have hf : f 9 = false := hk.1
      simp only [hf, Bool.false_eq_true, if_false] at h2
      have c0 : w'.cell? ⟨w.heap.size, 0, none⟩ = some (.int .i64 0) := h2.cell 0
      have c1 : w'.cell? ⟨w.heap.size, 1, none⟩ = some (.int .i64 0) := h2.cell 1
      have z0 := h2.frozen 0
      have z1 := h2.frozen 1
      clear hk hD
      go_simp
    · intro f w' hD hk
      obtain ⟨hb, h1, h2⟩ := id hD
      have hf : f 9 = false := hk.1
      simp only [hf, Bool.false_eq_true, if_false] at h2
      exact ⟨(hb.setCell (p := ⟨w.heap.size, 0, none⟩) (Nat.le_refl _) _).setCell (p := ⟨w.heap.size, 1, none⟩) (Nat.le_refl _) _, (h1.far (p := ⟨w.heap.size, 0, none⟩) (by simp) _).far (p := ⟨w.heap.size, 1, none⟩) (by simp) _, (h2.set_ 0 _).set_ 1 _⟩
    simp only [Act.put, List.setIfInBounds_toArray, List.set_cons_zero, List.set_cons_succ]
    repeat (first
      | (refine Fx.skip_ (by rfl) (fun f w h => h) ?_; simp only [Act.put, List.setIfInBounds_toArray, List.set_cons_zero, List.set_cons_succ])
      | (refine Fx.val_ ?_ (by rfl) ?_ (fun f w h => h) ?_
         rotate_left
         · intro f w' hD hk
           obtain ⟨hb, h1, h2⟩ := id hD
           have c0 : w'.cell? ⟨w.heap.size + 1, 0, none⟩ = some (.int .i64 (a / (Int.gcd a b : Int))) := h1.cell 0
           have c1 : w'.cell? ⟨w.heap.size + 1, 1, none⟩ = some (.int .i64 (b / (Int.gcd a b : Int))) := h1.cell 1
           clear hk hD hb h1 h2
           go_simp
           try rfl
         simp only [Act.put, List.setIfInBounds_toArray, List.set_cons_zero, List.set_cons_succ]))
    refine Fx.nil_ ?_
    intro f w1 hall hD
    have hf9 := hall 9 (by simp)
    obtain ⟨hb, _, h2⟩ := hD
    simp only [hf9, if_true] at *
    have c0 : w1.cell? ⟨w.heap.size, 0, none⟩ = some (.int .i64 (a / (Int.gcd a b : Int))) := h2.cell 0
    have c1 : w1.cell? ⟨w.heap.size, 1, none⟩ = some (.int .i64 (b / (Int.gcd a b : Int))) := h2.cell 1
    go_wp2_with fail
    exact bodyPost_ret (v := .tuple #[.agg #[.int .i64 (a / (Int.gcd a b : Int)), .int .i64 (b / (Int.gcd a b : Int))], .bool (smallB a b)]) (by simp [results, Try.results53, go_sem, c0, c1, smallB, HW.out]) rfl ⟨rfl, hb⟩

end Go.Proofs.Ytfigbdhfmlhjdaa

end

section
/- Contracts of the comparisons of lists. -/
namespace Go.Proofs.Ytfigbdhfmlhjdaa
open Go.RowKit

/-- The cells of pairs of numbers. -/
def cells2 (l : List (Int × Int)) : List Value := l.flatMap fun p => [.int .i64 p.1, .int .i64 p.2]
theorem cells2_length (l : List (Int × Int)) : (cells2 l).length = l.length * 2 := by
  induction l with
  | nil => rfl
  | cons p l ih => simp only [cells2, List.flatMap_cons, List.length_append, List.length_cons, List.length_nil] at *; omega
theorem cells2_append (l m : List (Int × Int)) : cells2 (l ++ m) = cells2 l ++ cells2 m := by simp [cells2]
theorem cells2_get (l : List (Int × Int)) : ∀ (i : Nat) (h : i < l.length), (cells2 l)[i * 2]? = some (.int .i64 (l[i]).1) ∧ (cells2 l)[i * 2 + 1]? = some (.int .i64 (l[i]).2) := by
  induction l with
  | nil => intro i h; simp at h
  | cons p l ih =>
    intro i h
    cases i with
    | zero => simp [cells2]
    | succ i =>
      have := ih i (by simpa using h)
      have e : cells2 (p :: l) = .int .i64 p.1 :: .int .i64 p.2 :: cells2 l := rfl
      rw [e, show (i + 1) * 2 = i * 2 + 1 + 1 from by omega]
      simpa using this

theorem Reads.pair {w : World} {B n : Nat} {A : Option Addr} {l : List (Int × Int)} (h : Reads w B 2 A n (cells2 l)) {i : Nat} (hi : i < n) :
    ∃ b o p, A = some ⟨b, o, none⟩ ∧ b < B ∧ l[i]? = some p ∧ w.cell? ⟨b, o + i * 2, none⟩ = some (.int .i64 p.1) ∧ w.cell? ⟨b, o + i * 2 + 1, none⟩ = some (.int .i64 p.2) := by
  obtain ⟨b, o, e, hb, hc⟩ := h.2 (by omega)
  have hl : l.length = n := by have := h.1; rw [cells2_length] at this; omega
  have hg := cells2_get l i (by omega)
  exact ⟨b, o, l[i]'(by omega), e, hb, List.getElem?_eq_getElem (by omega), hc _ _ hg.1, hc _ _ hg.2⟩

theorem Reads.len2 {w : World} {B n : Nat} {A : Option Addr} {l : List (Int × Int)} (h : Reads w B 2 A n (cells2 l)) : l.length = n := by
  have := h.1; rw [cells2_length] at this; omega

@[go_sem] theorem held_frac : Try.prog.stoodInHeld 35 = false := by kernel_rfl

@[go_sem] theorem guard_frac : Try.prog.eqGuardType Try.prog.depth 35 = false := by kernel_rfl

theorem eq_frac (a b c d : Int) (w : World) : (Op.equalIn 10000 35 (.agg #[.int .i64 a, .int .i64 b]) (.agg #[.int .i64 c, .int .i64 d])).run Try.prog w = .ok (decide ((a, b) = (c, d))) w := by
  simp [go_sem]
  by_cases h1 : a = c <;> by_cases h2 : b = d <;> simp [h1, h2]

@[go_sem ↓ high] theorem eql_frac (a b c d : Int) (w : World) : (binOp .eql 35 (.agg #[.int .i64 a, .int .i64 b]) (.agg #[.int .i64 c, .int .i64 d])).run Try.prog w = .ok (.bool (decide ((a, b) = (c, d)))) w := by
  rw [run_eql_struct, eq_frac]; rfl

@[go_sem ↓ high] theorem neq_frac (a b c d : Int) (w : World) : (binOp .neq 35 (.agg #[.int .i64 a, .int .i64 b]) (.agg #[.int .i64 c, .int .i64 d])).run Try.prog w = .ok (.bool (!decide ((a, b) = (c, d)))) w := by
  rw [run_neq_struct, eq_frac]; rfl

end Go.Proofs.Ytfigbdhfmlhjdaa

end

section
/- More lemmas on memory: what is owned, a call of append, the frame of a function that appends through a pointer. -/
namespace Go.Proofs.Ytfigbdhfmlhjdaa
open Go.RowKit

/-- What is owned stays owned where its block is as it was. -/
theorem own_same {w w' : World} {base : Nat} {e : TypeId} {size n : Nat} {v : Value} {xs : List Value} (h : w.ownsRow base e size v n xs) (hb : ∀ g, v.ownBlock = some g → w'.heap[g]? = w.heap[g]?) : w'.ownsRow base e size v n xs := by
  obtain ⟨h1, h2⟩ := h
  refine ⟨h1, h2.imp id fun ⟨g, cap, cur, hv, hg, hh, r⟩ => ⟨g, cap, cur, hv, hg, ?_, r⟩⟩
  rw [hb g (by rw [hv]; rfl)]; exact hh
theorem own_lt {w : World} {base : Nat} {e : TypeId} {size n : Nat} {v : Value} {xs : List Value} (h : w.ownsRow base e size v n xs) {g : Nat} (hg : v.ownBlock = some g) : base ≤ g ∧ g < w.heap.size := by
  rcases h.2 with ⟨rfl, _⟩ | ⟨g', cap, cur, rfl, hb, hh, _⟩
  · simp [Value.ownBlock] at hg
  · have : g' = g := by simpa [Value.ownBlock] using hg
    subst this
    exact ⟨hb, (Array.getElem?_eq_some_iff.1 hh).1⟩
theorem own_below {w w' : World} {base B : Nat} {e : TypeId} {size n : Nat} {v : Value} {xs : List Value} (h : w.ownsRow base e size v n xs) (hb : Below B w w') (hB : w.heap.size ≤ B) : w'.ownsRow base e size v n xs :=
  own_same h fun g hg => hb.block g (by have := (own_lt h hg).2; omega)
theorem own_set {w : World} {base : Nat} {e : TypeId} {size n : Nat} {v : Value} {xs : List Value} (h : w.ownsRow base e size v n xs) {p : Addr} (hp : v.ownBlock ≠ some p.block) (u : Value) : (w.setCell p u).ownsRow base e size v n xs :=
  own_same h fun g hg => Below.heap_setCell _ _ _ _ (fun e => hp (by rw [hg, e]))
theorem own_drewN {w : World} {base : Nat} {e : TypeId} {size n : Nat} {v : Value} {xs : List Value} (h : w.ownsRow base e size v n xs) (k : Nat) : (w.drewN k).ownsRow base e size v n xs := h

/-- A call of append, run. -/
theorem exec_append {P : Program} {o : Oper} {a : Act} {w w' : World} {v' : Value} (s x : Operand) (t : TypeId) (ho : o.op = .call { callee := .builtin .append, args := #[s, x], argTypes := #[t, t] })
    (hrun : (Builtin.append_ #[t, t] o.type #[a.eval s, a.eval x]).run P w = .ok v' w') : (execOp a.eval o).run P w = .ok (.value v') w' := by
  unfold execOp
  simp only [ho, resolve, invoke, builtin, Sem.run_bind, Sem.run_pure, Result.andThen_ok, List.map_toArray, List.map_cons, List.map_nil, hrun]

/-- The frame of a function that appends to a slice in the cell of block ob, and writes nothing else that was there. -/
structure Fr (ob : Nat) (v v' : Value) (w w' : World) : Prop where
  os : w'.os = w.os
  tape : w'.tape = w.tape
  output : w'.output = w.output
  size : w.heap.size ≤ w'.heap.size
  block : ∀ k, k < w.heap.size → k ≠ ob → v.ownBlock ≠ some k → w'.heap[k]? = w.heap[k]?
  row : v'.ownBlock = v.ownBlock ∨ ∃ g, v'.ownBlock = some g ∧ w.heap.size ≤ g

theorem Fr.of_below {ob : Nat} {v : Value} {w w' : World} (h : Below w.heap.size w w') : Fr ob v v w w' := ⟨h.os, h.tape, h.output, h.size, fun k hk _ _ => h.block k hk, .inl rfl⟩
theorem Fr.trans {ob : Nat} {v v1 v2 : Value} {w w1 w2 : World} (h : Fr ob v v1 w w1) (k : Fr ob v1 v2 w1 w2) : Fr ob v v2 w w2 := by
  refine ⟨k.os.trans h.os, k.tape.trans h.tape, k.output.trans h.output, Nat.le_trans h.size k.size, fun i hi hne hv => ?_, ?_⟩
  · refine (k.block i (Nat.lt_of_lt_of_le hi h.size) hne ?_).trans (h.block i hi hne hv)
    rcases h.row with e | ⟨g, e, hg⟩
    · rw [e]; exact hv
    · rw [e]; intro hx; have : g = i := Option.some.inj hx; omega
  · rcases k.row with e | ⟨g, e, hg⟩
    · rw [e]; exact h.row
    · exact .inr ⟨g, e, Nat.le_trans h.size hg⟩
theorem Fr.below {ob B : Nat} {v v' : Value} {w w' : World} (h : Fr ob v v' w w') (hB : B ≤ ob) (hs : ob ≤ w.heap.size) (hv : ∀ g, v.ownBlock = some g → B ≤ g) : Below B w w' :=
  ⟨h.os, h.tape, h.output, h.size, fun k hk => h.block k (by omega) (by omega) (fun e => by have := hv k e; omega)⟩
theorem Fr.blk {ob : Nat} {v v' : Value} {w w' : World} (h : Fr ob v v' w w') {g : Nat} {t : TypeId} {cs : Array Value} (hg : Blk w g t cs) (hne : g ≠ ob) (hv : v.ownBlock ≠ some g) : Blk w' g t cs := (h.block g hg.lt hne hv).trans hg

end Go.Proofs.Ytfigbdhfmlhjdaa

end
