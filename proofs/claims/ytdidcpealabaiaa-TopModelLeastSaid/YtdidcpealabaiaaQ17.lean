import Derived.Test.YtdidcpealabaiaaQ15
import Derived.Test.YtdidcpealabaiaaQ7
import Derived.Test.YtdidcpealabaiaaQ11
import Derived.Test.YtdidcpealabaiaaQ4

section
/- Stars as arguments: the guard Few. -/
namespace Go.Proofs.Ytdidcpealabaiaa
open Go Go.RowKit

/-- Few stars, or too many, with few shapes. -/
def fewStars (l : List Star) : Bool := l.all (fun s => decide (s.n ≤ 6)) && (decide (l.length ≤ 8) || (decide (20 < l.length) && decide (l.length ≤ 23)))
theorem fewStars_right {l : List Star} (h : fewStars l = true) : (∀ s ∈ l, s.n ≤ 6) ∧ l.length ≤ 23 := by
  unfold fewStars at h
  simp only [Bool.and_eq_true, List.all_eq_true, Bool.or_eq_true, decide_eq_true_eq] at h
  exact ⟨h.1, by omega⟩

set_option maxRecDepth 100000 in
theorem fewstars_is (l : List Star) (A : Option Addr) (n c : Nat) (t : Bool) (ht : fewStars l = t) (w : World) (hx : StarsAt l A n w) (hn : n ≤ 9223372036854775807) :
    Calls Try.prog 19 #[.slice A n c] w fun e w' => e = .returned (.bool t) ∧ w = w' := by
  have hl := hx.len
  have HT := Lib.hid ht
  have HL := Lib.hid hl
  have HX := Lib.hid hx
  clear ht hl hx
  go_enter Try.func19, Try.ntmps19
  go_wp2
  go_loopw [3] (fun i wr => ∃ k : Nat, k ≤ n ∧ i = .int .i64 k ∧ wr = w ∧ ∀ j s, j < k → l[j]? = some s → s.n ≤ 6) (fun i _ => n - (intOf i).toNat)
  case atStart => exact ⟨0, by omega, rfl, rfl, fun j s hj => absurd hj (by omega)⟩
  case round =>
    obtain ⟨k, hk, rfl, rfl, hpre⟩ := hrel
    have HP := Lib.hid hpre
    clear hpre
    by_cases hlt : k < n
    · obtain ⟨xb, xo, s, rfl, -, hs, c0, -, -, -, -⟩ := HX.out.at_ hlt
      have HS := Lib.hid hs
      clear hs
      by_cases h6 : s.n ≤ 6
      · have d6 : ¬ (6 : Int) < (s.n : Int) := by omega
        go_wp2
        go_roundw
        case rel =>
          refine ⟨k + 1, by omega, by go_num, by trivial, fun j s' hj hs' => ?_⟩
          rcases Nat.lt_or_ge j k with h | h
          · exact HP.out j s' h hs'
          · obtain rfl : j = k := by omega
            have := HS.out.symm.trans hs'
            cases this
            exact h6
        case measure => simp [intOf]; omega
      · have d6 : (6 : Int) < (s.n : Int) := by omega
        have ht' : t = false := by
          rw [← HT.out]
          cases hf : fewStars l with
          | false => rfl
          | true => exact absurd ((fewStars_right hf).1 s (List.mem_of_getElem? HS.out)) h6
        subst ht'
        clear h6
        go_wp2
        go_ret

        exact ⟨rfl, rfl⟩
    · have ha : l.all (fun s => decide (s.n ≤ 6)) = true := by
        rw [List.all_eq_true]
        intro s hs
        obtain ⟨j, hj⟩ := List.getElem?_of_mem hs
        have h1 := (List.getElem?_eq_some_iff.1 hj).1
        exact decide_eq_true (HP.out j s (by have := HL.out; omega) hj)
      have hv : t = (decide (n ≤ 8) || (decide (20 < n) && decide (n ≤ 23))) := by
        rw [← HT.out]; unfold fewStars; rw [ha, Bool.true_and, HL.out]
      clear ha
      by_cases h8 : n ≤ 8
      · obtain rfl : t = true := by rw [hv]; simp [h8]
        have d8 : (n : Int) ≤ 8 := by omega
        clear hv h8
        go_wp2
        go_ret
        exact ⟨rfl, rfl⟩
      have d8 : ¬ (n : Int) ≤ 8 := by omega
      by_cases h20 : 20 < n
      · have d20 : (20 : Int) < (n : Int) := by omega
        by_cases h23 : n ≤ 23
        · have d23 : (n : Int) ≤ 23 := by omega
          obtain rfl : t = true := by rw [hv]; simp [h20, h23]
          clear hv h8 h20 h23
          go_wp2
          go_ret
          exact ⟨rfl, rfl⟩
        · have d23 : ¬ (n : Int) ≤ 23 := by omega
          obtain rfl : t = false := by rw [hv]; simp [h23]; omega
          clear hv h8 h20 h23
          go_wp2
          go_ret
          exact ⟨rfl, rfl⟩
      · have d20 : ¬ (20 : Int) < (n : Int) := by omega
        obtain rfl : t = false := by rw [hv]; simp [h20]; omega
        clear hv h8 h20
        go_wp2
        go_ret
        exact ⟨rfl, rfl⟩
end Go.Proofs.Ytdidcpealabaiaa

end

section
/- Contracts of what the statements on pointing do with their arguments: guards and copies. -/
namespace Go.Proofs.Ytdidcpealabaiaa
open Go Go.RowKit

theorem low {P : Program} {f : FuncId} {args : Array Value} {w : World} {E : Ending} (h : Calls P f args w fun e w' => e = E ∧ ∃ q, w' = w.drewN q) : Calls P f args w fun e w' => e = E ∧ Below w.heap.size w w' :=
  h.mono fun e w' ⟨he, q, hw⟩ => ⟨he, by rw [hw]; exact below_drewN (Below.refl _ _) q⟩

def rowsB (n : Nat) : Bool := decide (n ≤ 6) || (decide (40 < n) && decide (n ≤ 43))
def lightB (m : Mnt) : Bool := rowsB m.n1 && rowsB m.n2
/-- A mounting with its tables elsewhere. -/
def Mnt.to (m : Mnt) (A1 : Option Addr) (c1 : Nat) (A2 : Option Addr) (c2 : Nat) : Mnt := { m with A1 := A1, c1 := c1, A2 := A2, c2 := c2 }
def MountPost (m : Mnt) (w : World) (e : Ending) (w' : World) : Prop := ∃ A1 c1 A2 c2, e = .returned (m.to A1 c1 A2 c2).val ∧ Below w.heap.size w w' ∧ MntAt (m.to A1 c1 A2 c2) w'

/-- The mounting in its block, while its tables are copied. -/
def slC (n : Nat) (u : Value) (f : Bool) : Option Pick → Value
  | some x => if f then .slice x.1 n x.2 else u
  | none => u
structure MtD (rs : Array Value) (T e : TypeId) (b n1 n2 : Nat) (l1 l2 : List Value) (v0 v1 v2 v3 v4 u1 u2 : Value) (W : World) (g : Nat → Option Pick) (f : Nat → Bool) (w' : World) : Prop where
  bel : Below b W w'
  two : Blk w' (b + 1) T rs
  blk : Blk w' b T #[v0, v1, v2, v3, v4, slC n1 u1 (f 7) (g 2), slC n2 u2 (f 9) (g 5)]
  o1 : ∀ x, g 2 = some x → w'.ownsRow (b + 2) e 2 (.slice x.1 n1 x.2) n1 l1
  o2 : ∀ x, g 5 = some x → w'.ownsRow (b + 2) e 2 (.slice x.1 n2 x.2) n2 l2
section
variable {rs : Array Value} {T e : TypeId} {b n1 n2 k : Nat} {l1 l2 : List Value} {v0 v1 v2 v3 v4 u1 u2 : Value} {W w' w'' : World} {g : Nat → Option Pick} {f : Nat → Bool}
theorem MtD.same (h : MtD rs T e b n1 n2 l1 l2 v0 v1 v2 v3 v4 u1 u2 W g f w') (k7 : k ≠ 7) (k9 : k ≠ 9) : MtD rs T e b n1 n2 l1 l2 v0 v1 v2 v3 v4 u1 u2 W g (Fx.add f k) w' :=
  ⟨h.bel, h.two, by rw [add_ne' k7, add_ne' k9]; exact h.blk, h.o1, h.o2⟩
end

end Go.Proofs.Ytdidcpealabaiaa

end

section
/- Classes of worlds for a drawn region of calls whose results are known only behind them: what is chosen keeps its facts. -/
namespace Go.Proofs.Ytdidcpealabaiaa
open Go Go.RowKit

@[go_sem] theorem held_arr2 : Try.prog.stoodInHeld 60 = false := by kernel_rfl
@[go_sem] theorem guard_arr2 : Try.prog.eqGuardType Try.prog.depth 60 = false := by kernel_rfl
theorem eq_arr2 (a b c d : Int) (w : World) : (Op.equalIn 10000 60 (.agg #[.int .i64 a, .int .i64 b]) (.agg #[.int .i64 c, .int .i64 d])).run Try.prog w = .ok (decide ((a, b) = (c, d))) w := by
  have h0 : (sizeOf 3).run Try.prog w = .ok 1 w := by kernel_rfl
  have p0 : ∀ u v : Value, (part 3 #[u, v] 0).run Try.prog w = .ok u w := fun _ _ => by kernel_rfl
  have p1 : ∀ u v : Value, (part 3 #[u, v] 1).run Try.prog w = .ok v w := fun _ _ => by kernel_rfl
  have q : ∀ u v : Int, (Op.equalIn 9999 3 (.int .i64 u) (.int .i64 v)).run Try.prog w = .ok (u == v) w := fun u v => run_equalIn_int w 9998 _ .i64 .i64 u v Try.underlying3
  show (Op.equalIn (9999 + 1) _ _ _).run _ w = _
  rw [Op.equalIn.eq_def]
  simp only [Sem.run_bind, run_underlying Try.underlying60, Result.andThen_ok, h0]
  rw [Std.Legacy.Range.forIn_eq_forIn_range']
  simp [List.range', p0, p1, q, Sem.run_bind]
  by_cases h1 : a = c <;> by_cases h2 : b = d <;> simp [h1, h2, p0, p1, q]
@[go_sem ↓ high] theorem eql_arr2 (a b c d : Int) (w : World) : (binOp .eql 60 (.agg #[.int .i64 a, .int .i64 b]) (.agg #[.int .i64 c, .int .i64 d])).run Try.prog w = .ok (.bool (decide ((a, b) = (c, d)))) w := by
  rw [run_eql_struct, eq_arr2]; rfl
@[go_sem ↓ high] theorem neq_arr2 (a b c d : Int) (w : World) : (binOp .neq 60 (.agg #[.int .i64 a, .int .i64 b]) (.agg #[.int .i64 c, .int .i64 d])).run Try.prog w = .ok (.bool (!decide ((a, b) = (c, d)))) w := by
  rw [run_neq_struct, eq_arr2]; rfl

abbrev Pick2 := Pick × Pick
def Stb (Pf : Nat → Pick2 → World → Prop) : Prop := ∀ i x (w w' : World), Below w.heap.size w w' → Pf i x w → Pf i x w'
structure Kp (Pf : Nat → Pick2 → World → Prop) (W : World) (g : Nat → Option Pick2) (w' : World) : Prop where
  bel : Below W.heap.size W w'
  has : ∀ i x, g i = some x → Pf i x w'
section
variable {Pf : Nat → Pick2 → World → Prop} {W w' w'' : World} {g : Nat → Option Pick2} {f : Nat → Bool}
theorem Kp.start : Kp Pf W (fun _ => none) (W.drewN 1) := ⟨below_drewN (Below.refl _ _) 1, fun _ _ h => nomatch h⟩
theorem Kp.call (h : Kp Pf W g w') (hs : Stb Pf) (hb : Below w'.heap.size w' w'') : Kp Pf W g w'' := ⟨step_below hb h.bel, fun i x hx => hs i x _ _ hb (h.has i x hx)⟩
theorem Kp.choose (h : Kp Pf W g w') (hs : Stb Pf) (hb : Below w'.heap.size w' w'') (i : Nat) (x : Pick2) (hx : Pf i x w'') : Kp Pf W (Fx.upd g i x) w'' := ⟨step_below hb h.bel, fun j y hy => by
  by_cases e : j = i
  · subst e
    rw [Fx.upd_same] at hy
    cases hy
    exact hx
  · rw [upd_ne e] at hy
    exact hs j y _ _ hb (h.has j y hy)⟩
/-- The same, with a block of two cells that operation c makes and operation s stores into. -/
structure KpS (Pf : Nat → Pick2 → World → Prop) (T : TypeId) (v0 v1 : Value) (c s : Nat) (W : World) (g : Nat → Option Pick2) (f : Nat → Bool) (w' : World) : Prop where
  bel : Below W.heap.size W w'
  has : f s = false → ∀ i x, g i = some x → i ≠ c → Pf i x w'
  made : ∀ x, g c = some x → ∃ b, x.1.1 = some ⟨b, 0, none⟩ ∧ W.heap.size ≤ b ∧ ∃ e0 e1, Blk w' b T #[e0, e1] ∧ (f s = true → e0 = v0 ∧ e1 = v1)
variable {T : TypeId} {v0 v1 : Value} {c s k : Nat}
theorem KpS.start : KpS Pf T v0 v1 c s W (fun _ => none) f (W.drewN 1) := ⟨below_drewN (Below.refl _ _) 1, fun _ _ _ h => (nomatch h), fun _ h => (nomatch h)⟩
theorem KpS.same (h : KpS Pf T v0 v1 c s W g f w') (hk : k ≠ s) : KpS Pf T v0 v1 c s W g (Fx.add f k) w' := ⟨h.bel, fun hf => h.has (by rwa [add_ne' hk] at hf), fun x hx => by
  obtain ⟨b, h0, h1, e0, e1, h2, h3⟩ := h.made x hx
  exact ⟨b, h0, h1, e0, e1, h2, fun hf => h3 (by rwa [add_ne' hk] at hf)⟩⟩
theorem KpS.call (h : KpS Pf T v0 v1 c s W g f w') (hs : Stb Pf) (hk : k ≠ s) (hb : Below w'.heap.size w' w'') : KpS Pf T v0 v1 c s W g (Fx.add f k) w'' := ⟨step_below hb h.bel, fun hf i x hx hi => hs i x _ _ hb (h.has (by rwa [add_ne' hk] at hf) i x hx hi), fun x hx => by
  obtain ⟨b, h0, h1, e0, e1, h2, h3⟩ := h.made x hx
  exact ⟨b, h0, h1, e0, e1, h2.below hb h2.lt, fun hf => h3 (by rwa [add_ne' hk] at hf)⟩⟩
theorem KpS.choose (h : KpS Pf T v0 v1 c s W g f w') (hs : Stb Pf) (hb : Below w'.heap.size w' w'') (i : Nat) (x : Pick2) (hi : i ≠ s) (hc : i ≠ c) (hx : Pf i x w'') : KpS Pf T v0 v1 c s W (Fx.upd g i x) (Fx.add f i) w'' := ⟨step_below hb h.bel, fun hf j y hy hj => by
  by_cases e : j = i
  · subst e
    rw [Fx.upd_same] at hy
    cases hy
    exact hx
  · rw [upd_ne e] at hy
    exact hs j y _ _ hb (h.has (by rwa [add_ne' hi] at hf) j y hy hj), fun y hy => by
  rw [upd_ne hc.symm] at hy
  obtain ⟨b, h0, h1, e0, e1, h2, h3⟩ := h.made y hy
  exact ⟨b, h0, h1, e0, e1, h2.below hb h2.lt, fun hf => h3 (by rwa [add_ne' hi] at hf)⟩⟩
theorem KpS.make {a b : Value} (h : KpS Pf T v0 v1 c s W g f w') (hs : Stb Pf) (hf : f s = false) (hc : c ≠ s) : KpS Pf T v0 v1 c s W (Fx.upd g c ((some ⟨w'.heap.size, 0, none⟩, 0), (none, 0))) (Fx.add f c) (w'.alloc (.cells #[a, b] T)) := ⟨h.bel.alloc h.bel.size _, fun _ j y hy hj => by
  rw [upd_ne hj] at hy
  exact hs j y _ _ ((Below.refl _ _).alloc (Nat.le_refl _) _) (h.has hf j y hy hj), fun y hy => by
  rw [Fx.upd_same] at hy
  cases hy
  refine ⟨w'.heap.size, rfl, h.bel.size, a, b, Blk.new _ _ _, fun e => ?_⟩
  rw [add_ne' hc, hf] at e
  cases e⟩
theorem KpS.cells {x : Pick2} (h : KpS Pf T v0 v1 c s W g f w') (hx : g c = some x) : ∃ b e0 e1, x.1.1 = some ⟨b, 0, none⟩ ∧ W.heap.size ≤ b ∧ w'.cell? ⟨b, 0, none⟩ = some e0 ∧ w'.cell? ⟨b, 1, none⟩ = some e1 ∧ w'.frozen? ⟨b, 0, none⟩ = false ∧ w'.frozen? ⟨b, 1, none⟩ = false := by
  obtain ⟨b, h0, h1, e0, e1, h2, -⟩ := h.made x hx
  exact ⟨b, e0, e1, h0, h1, h2.cell 0, h2.cell 1, h2.frozen 0, h2.frozen 1⟩
theorem KpS.store {x : Pick2} {b : Nat} (h : KpS Pf T v0 v1 c s W g f w') (hx : g c = some x) (hb : x.1.1 = some ⟨b, 0, none⟩) : KpS Pf T v0 v1 c s W g (Fx.add f s) ((w'.setCell ⟨b, 0, none⟩ v0).setCell ⟨b, 1, none⟩ v1) := by
  obtain ⟨b', h0, h1, e0, e1, h2, -⟩ := h.made x hx
  rw [hb] at h0
  cases h0
  refine ⟨below_store h.bel h1, fun hf => (by rw [add_same] at hf; cases hf), fun y hy => ?_⟩
  rw [hx] at hy
  cases hy
  refine ⟨b, hb, h1, v0, v1, ?_, fun _ => ⟨rfl, rfl⟩⟩
  have := (h2.set_ 0 v0).set_ 1 v1
  simpa using this
end

/-- What is known of copies: of a mounting (operation ci), of targets (operation ti), of numbers (operation ki). -/
def PfT (m : Mnt) (n : Nat) (l : List Tgt) (q : Nat) (ks : List Int) (ci ti ki : Nat) (i : Nat) (x : Pick2) (w : World) : Prop :=
  (i = ci → MntAt (m.to x.1.1 x.1.2 x.2.1 x.2.2) w) ∧ (i = ti → Reads w w.heap.size 6 x.1.1 n (tgtCells l) ∧ (n ≤ x.1.2 ∧ x.1.2 ≤ 9223372036854775807)) ∧ (i = ki → Reads w w.heap.size 1 x.1.1 q (ks.map (.int .i64)) ∧ (q ≤ x.1.2 ∧ x.1.2 ≤ 9223372036854775807))
def valT (m : Mnt) (n q ci ti : Nat) (i : Nat) (x : Pick2) : Value := if i = ci then (m.to x.1.1 x.1.2 x.2.1 x.2.2).val else if i = ti then .slice x.1.1 n x.1.2 else .slice x.1.1 q x.1.2
/-- What is known of a copy of a mounting (operation ci) and of a list of numbers (operation ki). -/
def PfQ (m : Mnt) (q : Nat) (ks : List Int) (ci ki : Nat) (i : Nat) (x : Pick2) (w : World) : Prop :=
  (i = ci → MntAt (m.to x.1.1 x.1.2 x.2.1 x.2.2) w) ∧ (i = ki → Reads w w.heap.size 1 x.1.1 q (ks.map (.int .i64)))
end Go.Proofs.Ytdidcpealabaiaa

end

section
/- Contracts of models of pointing: the check, and the prediction times the denominator; both sides. -/
namespace Go.Proofs.Ytdidcpealabaiaa
open Go Go.RowKit

/-- The error of a model. -/
def mdlErr (T : List Int) (D : Int) : Int := if withinB (T.length : Int) 1 3 = false then 10 else if withinB D 1 1000000000000 = false ∨ smallL 1000000000000 T = false then 2 else if gcdF D T ≠ 1 then 3 else 0
theorem gcdF_in : ∀ (l : List Int) (d : Int), 1 ≤ d → 1 ≤ gcdF d l ∧ gcdF d l ≤ d
  | [], d, h => ⟨h, Int.le_refl d⟩
  | z :: r, d, h => by
    have hg : 1 ≤ (Int.gcd d z : Int) := by have := Int.gcd_pos_of_ne_zero_left z (show d ≠ 0 by omega); omega
    have hle : (Int.gcd d z : Int) ≤ d := by
      have := Int.gcd_le_natAbs_left z (show d ≠ 0 by omega)
      omega
    obtain ⟨h1, h2⟩ := gcdF_in r (Int.gcd d z : Int) hg
    exact ⟨h1, by show gcdF (Int.gcd d z : Int) r ≤ d; omega⟩
theorem mdl_right {T : List Int} {D : Int} (h : mdlErr T D = 0) : 1 ≤ T.length ∧ T.length ≤ 3 ∧ (1 ≤ D ∧ D ≤ 1000000000000) ∧ (∀ z ∈ T, -1000000000000 ≤ z ∧ z ≤ 1000000000000) ∧ gcdF D T = 1 := by
  unfold mdlErr at h
  cases h1 : withinB (T.length : Int) 1 3
  · rw [if_pos h1] at h; exact absurd h (by decide)
  rw [if_neg (by rw [h1]; simp)] at h
  by_cases h2 : withinB D 1 1000000000000 = false ∨ smallL 1000000000000 T = false
  · rw [if_pos h2] at h; exact absurd h (by decide)
  rw [if_neg h2] at h
  by_cases h3 : gcdF D T ≠ 1
  · rw [if_pos h3] at h; exact absurd h (by decide)
  have h1 := (withinB_iff _ _ _).1 h1
  rw [not_or] at h2
  have h4 : withinB D 1 1000000000000 = true := by simpa using h2.1
  have h5 : smallL 1000000000000 T = true := by simpa using h2.2
  refine ⟨by omega, by omega, (withinB_iff _ _ _).1 h4, fun z hz => ?_, Decidable.not_not.1 h3⟩
  exact (withinB_iff _ _ _).1 (List.all_eq_true.1 h5 z hz)
theorem gcdp_is (a b g : Int) (hg : (Int.gcd a b : Int) = g) (w : World) (h1 : 1 ≤ a ∧ a ≤ 1000000000000) (h2 : -1000000000000 ≤ b ∧ b ≤ 1000000000000) :
    Calls Try.prog 81 #[.int .i64 a, .int .i64 b] w fun e w' => e = .returned (.int .i64 g) ∧ ∃ q, w' = w.drewN q := by
  have hle := Int.gcd_le_natAbs_left b (show a ≠ 0 by omega)
  have hw : wrap64 (Int.gcd a b : Int) = g := by rw [IntWalk.wrap64_in _ ⟨by omega, by omega⟩, hg]
  exact (gcdpt_any a b w (by omega) (by omega) (by omega) (by omega)).mono fun e w' ⟨he, q, hq⟩ => ⟨by rw [he, hw], q, hq⟩
set_option maxRecDepth 100000 in
set_option maxHeartbeats 1000000 in
theorem pmodel_is (A : Option Addr) (n c : Nat) (T : List Int) (D E : Int) (hE : mdlErr T D = E) (w : World) (hx : Reads w w.heap.size 1 A n (T.map (.int .i64))) (hn : n ≤ 9223372036854775807) :
    Calls Try.prog 26 #[.agg #[.slice A n c, .int .i64 D]] w fun e w' => e = .returned (.int .i64 E) ∧ Below w.heap.size w w' := by
  have hl := hx.ilen
  have HX := Lib.hid hx
  have HL := Lib.hid hl
  clear hx
  cases h1 : withinB (n : Int) 1 3
  · obtain rfl : E = 10 := by rw [← hE]; unfold mdlErr; rw [if_pos (by rw [hl]; exact h1)]
    have H1 := Lib.hid h1
    clear hE h1 hl
    go_enter Try.func26, Try.ntmps26
    go_wp2_with fail
    refine (withinpt_is _ _ _ false H1.out _).mono ?_
    rintro e w' ⟨rfl, rfl⟩
    go_wp2
    go_ret
    exact ⟨rfl, by repeat' (first | exact Below.refl _ _ | refine below_drewN ?_ _ | refine Below.drew ?_ | refine Below.alloc ?_ (by first | omega | (simp; done) | (simp; omega) | (simp [World.setCell]; omega)) _ | refine Below.setCell ?_ (by first | omega | (simp; done) | (simp; omega)) _)⟩
  have hn3 := (withinB_iff _ _ _).1 h1
  have hE1 : E = if withinB D 1 1000000000000 = false ∨ smallL 1000000000000 T = false then 2 else if gcdF D T ≠ 1 then 3 else 0 := by rw [← hE]; unfold mdlErr; rw [if_neg (by rw [hl, h1]; simp)]
  have H1 := Lib.hid h1
  clear hE h1 hl
  cases h2 : withinB D 1 1000000000000
  · obtain rfl : E = 2 := by rw [hE1, if_pos (.inl h2)]
    have H2 := Lib.hid h2
    clear hE1 h2
    go_enter Try.func26, Try.ntmps26
    go_wp2_with fail
    refine (withinpt_is _ _ _ true H1.out _).mono ?_
    rintro e w' ⟨rfl, rfl⟩
    go_wp2_with fail
    refine (withinpt_is _ _ _ false H2.out _).mono ?_
    rintro e w' ⟨rfl, rfl⟩
    go_wp2
    go_ret
    exact ⟨rfl, by repeat' (first | exact Below.refl _ _ | refine below_drewN ?_ _ | refine Below.drew ?_ | refine Below.alloc ?_ (by first | omega | (simp; done) | (simp; omega) | (simp [World.setCell]; omega)) _ | refine Below.setCell ?_ (by first | omega | (simp; done) | (simp; omega)) _)⟩
  have hD := (withinB_iff _ _ _).1 h2
  have H2 := Lib.hid h2
  cases h3 : smallL 1000000000000 T
  · obtain rfl : E = 2 := by rw [hE1, if_pos (.inr h3)]
    have H3 := Lib.hid h3
    clear hE1 h2 h3
    go_enter Try.func26, Try.ntmps26
    go_wp2_with fail
    refine (withinpt_is _ _ _ true H1.out _).mono ?_
    rintro e w' ⟨rfl, rfl⟩
    go_wp2_with fail
    refine (withinpt_is _ _ _ true H2.out _).mono ?_
    rintro e w' ⟨rfl, rfl⟩
    go_wp2_with fail
    generalize hwn : (w.alloc (.cells #[.slice A n c, .int .i64 (D)] 45)) = w1
    have hbn : Below w.heap.size w w1 := by rw [← hwn]; repeat' (first | exact Below.refl _ _ | refine below_drewN ?_ _ | refine Below.drew ?_ | refine Below.alloc ?_ (by first | omega | (simp; done) | (simp; omega) | (simp [World.setCell]; omega)) _ | refine Below.setCell ?_ (by first | omega | (simp; done) | (simp; omega)) _)
    have HB1 := Lib.hid (show Below w.heap.size w w1 from hbn)
    have K0_1 := Lib.hid (show Blk w1 (w.heap.size) 45 #[.slice A n c, .int .i64 (D)] by rw [← hwn]; repeat' (first | exact Blk.at_ _ (by first | rfl | (simp; done) | (simp; omega)) _ _ | refine Blk.drewN ?_ _ | refine Blk.drew ?_ | refine Blk.alloc ?_ _ | refine Blk.far ?_ (by first | omega | (simp; done) | (simp; omega)) _ | assumption))
    have HN1 := Lib.hid hbn
    have hz1 := hbn.size
    clear hwn hbn
    have l0_1 : w.heap.size < w1.heap.size := K0_1.out.lt
    have z0_0_1 : w1.cell? ⟨w.heap.size, 0, none⟩ = some (.slice A n c) := K0_1.out.cell 0
    have z0_1_1 : w1.cell? ⟨w.heap.size, 1, none⟩ = some (.int .i64 (D)) := K0_1.out.cell 1
    refine (smallpt_is 1000000000000 A n c _ T false H3.out _ (by omega) (by omega) ((HX.out.below HB1.out).more HB1.out.size) (Nat.le_refl _) hn).mono ?_
    rintro e w2 ⟨rfl, hb⟩
    have HB2 := Lib.hid (show Below w.heap.size w w2 from step_below hb (by repeat' (first | exact Below.refl _ _ | exact HB1.out | refine below_drewN ?_ _ | refine Below.drew ?_ | refine Below.alloc ?_ (by first | omega | (simp; done) | (simp; omega) | (simp [World.setCell]; omega)) _ | refine Below.setCell ?_ (by first | omega | (simp; done) | (simp; omega)) _ | assumption)))
    have K0_2 := Lib.hid (step_blk hb (show Blk _ (w.heap.size) 45 #[.slice A n c, .int .i64 (D)] by repeat' (first | exact K0_1.out | exact Blk.at_ _ (by first | rfl | (simp; done) | (simp; omega)) _ _ | refine Blk.drewN ?_ _ | refine Blk.drew ?_ | refine Blk.alloc ?_ _ | refine Blk.far ?_ (by first | omega | (simp; done) | (simp; omega)) _ | assumption)))
    have hz2 := hb.size
    try simp only [World.size_alloc, World.drewN, World.drew] at hz2
    clear hb K0_1 z0_0_1 z0_1_1 l0_1
    have l0_2 : w.heap.size < w2.heap.size := K0_2.out.lt
    have z0_0_2 : w2.cell? ⟨w.heap.size, 0, none⟩ = some (.slice A n c) := K0_2.out.cell 0
    have z0_1_2 : w2.cell? ⟨w.heap.size, 1, none⟩ = some (.int .i64 (D)) := K0_2.out.cell 1
    go_wp2
    go_ret
    exact ⟨rfl, HB2.out⟩
  have hT : ∀ z ∈ T, -1000000000000 ≤ z ∧ z ≤ 1000000000000 := fun z hz => (withinB_iff _ _ _).1 (List.all_eq_true.1 h3 z hz)
  have hE2 : E = if gcdF D T ≠ 1 then 3 else 0 := by rw [hE1, if_neg (by rw [h2, h3]; simp)]
  have H3 := Lib.hid h3
  have HT := Lib.hid hT
  have HE := Lib.hid hE2
  clear hE1 h2 h3 hT hE2
  go_enter Try.func26, Try.ntmps26
  go_wp2_with fail
  refine (withinpt_is _ _ _ true H1.out _).mono ?_
  rintro e w' ⟨rfl, rfl⟩
  go_wp2_with fail
  refine (withinpt_is _ _ _ true H2.out _).mono ?_
  rintro e w' ⟨rfl, rfl⟩
  go_wp2_with fail
  generalize hwn : (w.alloc (.cells #[.slice A n c, .int .i64 (D)] 45)) = w1
  have hbn : Below w.heap.size w w1 := by rw [← hwn]; repeat' (first | exact Below.refl _ _ | refine below_drewN ?_ _ | refine Below.drew ?_ | refine Below.alloc ?_ (by first | omega | (simp; done) | (simp; omega) | (simp [World.setCell]; omega)) _ | refine Below.setCell ?_ (by first | omega | (simp; done) | (simp; omega)) _)
  have HB1 := Lib.hid (show Below w.heap.size w w1 from hbn)
  have K0_1 := Lib.hid (show Blk w1 (w.heap.size) 45 #[.slice A n c, .int .i64 (D)] by rw [← hwn]; repeat' (first | exact Blk.at_ _ (by first | rfl | (simp; done) | (simp; omega)) _ _ | refine Blk.drewN ?_ _ | refine Blk.drew ?_ | refine Blk.alloc ?_ _ | refine Blk.far ?_ (by first | omega | (simp; done) | (simp; omega)) _ | assumption))
  have HN1 := Lib.hid hbn
  have hz1 := hbn.size
  clear hwn hbn
  have l0_1 : w.heap.size < w1.heap.size := K0_1.out.lt
  have z0_0_1 : w1.cell? ⟨w.heap.size, 0, none⟩ = some (.slice A n c) := K0_1.out.cell 0
  have z0_1_1 : w1.cell? ⟨w.heap.size, 1, none⟩ = some (.int .i64 (D)) := K0_1.out.cell 1
  refine (smallpt_is 1000000000000 A n c _ T true H3.out _ (by omega) (by omega) ((HX.out.below HB1.out).more HB1.out.size) (Nat.le_refl _) hn).mono ?_
  rintro e w2 ⟨rfl, hb⟩
  have HB2 := Lib.hid (show Below w.heap.size w w2 from step_below hb (by repeat' (first | exact Below.refl _ _ | exact HB1.out | refine below_drewN ?_ _ | refine Below.drew ?_ | refine Below.alloc ?_ (by first | omega | (simp; done) | (simp; omega) | (simp [World.setCell]; omega)) _ | refine Below.setCell ?_ (by first | omega | (simp; done) | (simp; omega)) _ | assumption)))
  have K0_2 := Lib.hid (step_blk hb (show Blk _ (w.heap.size) 45 #[.slice A n c, .int .i64 (D)] by repeat' (first | exact K0_1.out | exact Blk.at_ _ (by first | rfl | (simp; done) | (simp; omega)) _ _ | refine Blk.drewN ?_ _ | refine Blk.drew ?_ | refine Blk.alloc ?_ _ | refine Blk.far ?_ (by first | omega | (simp; done) | (simp; omega)) _ | assumption)))
  have hz2 := hb.size
  try simp only [World.size_alloc, World.drewN, World.drew] at hz2
  clear hb K0_1 z0_0_1 z0_1_1 l0_1
  have l0_2 : w.heap.size < w2.heap.size := K0_2.out.lt
  have z0_0_2 : w2.cell? ⟨w.heap.size, 0, none⟩ = some (.slice A n c) := K0_2.out.cell 0
  have z0_1_2 : w2.cell? ⟨w.heap.size, 1, none⟩ = some (.int .i64 (D)) := K0_2.out.cell 1
  go_wp2
  go_loopw [3, 28] (fun g i wr => ∃ k : Nat, k ≤ n ∧ g = .int .i64 (gcdF D (T.take k)) ∧ i = .int .i64 k ∧ Below w2.heap.size w2 wr) (fun _ i _ => n - (intOf i).toNat)
  case atStart => exact ⟨0, by omega, rfl, rfl, by repeat' (first | exact Below.refl _ _ | refine below_drewN ?_ _ | refine Below.drew ?_ | refine Below.alloc ?_ (by first | omega | (simp; done) | (simp; omega) | (simp [World.setCell]; omega)) _ | refine Below.setCell ?_ (by first | omega | (simp; done) | (simp; omega)) _)⟩
  case round =>
    obtain ⟨k, hk, rfl, rfl, hb⟩ := hrel
    obtain ⟨w3, hnm⟩ : ∃ z : World, z = wr := ⟨_, rfl⟩
    subst hnm
    have hb' := HB2.out.trans (hb.mono HB2.out.size)
    have HBR := Lib.hid hb
    have HBW := Lib.hid hb'
    obtain ⟨g1, g2⟩ := gcdF_in (T.take k) D hD.1
    clear hb
    by_cases hlt : k < n
    · obtain ⟨xb, xo, z, rfl, -, hz, c0⟩ := (HX.out.below hb').int_ hlt
      have hzR := HT.out z (List.mem_of_getElem? hz)
      obtain ⟨g, hg⟩ : ∃ g, (Int.gcd (gcdF D (T.take k)) z : Int) = g := ⟨_, rfl⟩
      have hgs : gcdF D (T.take (k + 1)) = g := by rw [List.take_add_one, hz, ← hg]; exact gcdF_snoc z _ D
      have HG := Lib.hid hg
      have HGS := Lib.hid hgs
      have hkk : (k : Int) < (n : Int) := by omega
      clear hz hg hgs hb'
      go_wp2_with fail
      refine (gcdp_is _ z g HG.out _ ⟨g1, by omega⟩ hzR).mono ?_
      rintro e w4 ⟨rfl, q, rfl⟩
      go_wp2
      go_roundw
      case rel => exact ⟨k + 1, by omega, by rw [HGS.out], by go_num, below_drewN HBR.out _⟩
      case measure => simp [intOf]; omega
    · obtain rfl : n = k := by omega
      have htk : T.take n = T := List.take_of_length_le (by rw [HL.out]; exact Nat.le_refl _)
      obtain ⟨g, hg⟩ : ∃ g, gcdF D T = g := ⟨_, rfl⟩
      have hEE := HE.out
      rw [hg] at hEE
      rw [htk, hg]
      clear htk hg g1 g2 hb'
      by_cases h0 : g = 1
      · have e1 : (g != 1) = false := by simpa using h0
        obtain rfl : E = 0 := by rw [hEE, if_neg (by simp [h0])]
        clear hEE h0
        go_wp2
        go_ret
        exact ⟨rfl, HBW.out⟩
      · have e1 : (g != 1) = true := by simpa using h0
        obtain rfl : E = 3 := by rw [hEE, if_pos h0]
        clear hEE
        go_wp2
        go_ret
        exact ⟨rfl, HBW.out⟩
end Go.Proofs.Ytdidcpealabaiaa

end

section
/- Contracts of models of pointing, of the reference; products of terms and shapes on both sides. -/
namespace Go.Proofs.Ytdidcpealabaiaa
open Go Go.RowKit

/-- The sum of products of terms and shapes, of the first k. -/
def dotTo (T S : List Int) (k : Nat) : Int := (((T.zip S).take k).map fun p => p.1 * p.2).sum
theorem dotTo_succ {T S : List Int} {k : Nat} {a b : Int} (ha : T[k]? = some a) (hb : S[k]? = some b) : dotTo T S (k + 1) = dotTo T S k + a * b := by
  unfold dotTo
  rw [List.take_add_one, show (T.zip S)[k]? = some (a, b) from by rw [List.getElem?_zip_eq_some]; exact ⟨ha, hb⟩]
  simp
theorem dotTo_in {T S : List Int} {b : Int} (h0 : 0 ≤ b) (hb : b ≤ 1000) (hT : ∀ z ∈ T, -1000000000000 ≤ z ∧ z ≤ 1000000000000) (hS : ∀ z ∈ S, -b ≤ z ∧ z ≤ b) (k : Nat) (hk : k ≤ 3) : -(1000000000000 * b * k) ≤ dotTo T S k ∧ dotTo T S k ≤ 1000000000000 * b * k := by
  have hb0 : 0 ≤ 1000000000000 * b := by omega
  have h1 := sum_in (1000000000000 * b) hb0 (((T.zip S).take k).map fun p => p.1 * p.2) fun z hz => by
    obtain ⟨p, hp, rfl⟩ := List.mem_map.1 hz
    obtain ⟨p1, p2⟩ := p
    obtain ⟨m1, m2⟩ := List.of_mem_zip (List.mem_of_mem_take hp)
    exact mulb (hT _ m1) (hS _ m2) (by decide) h0
  have h2 : (((T.zip S).take k).map fun p : Int × Int => p.1 * p.2).length ≤ k := by rw [List.length_map]; exact List.length_take_le _ _
  have h3 : 1000000000000 * b * ((((T.zip S).take k).map fun p : Int × Int => p.1 * p.2).length : Int) ≤ 1000000000000 * b * (k : Int) := Int.mul_le_mul_of_nonneg_left (by omega) hb0
  unfold dotTo
  omega

set_option maxRecDepth 100000 in
theorem value_is (A : Option Addr) (n c : Nat) (T : List Int) (D : Int) (B : Option Addr) (cb : Nat) (S : List Int) (b v : Int) (hv : dotTo T S n = v) (w : World) (hx : Reads w w.heap.size 1 A n (T.map (.int .i64))) (hy : Reads w w.heap.size 1 B n (S.map (.int .i64))) (hn : n ≤ 3) (h0 : 0 ≤ b) (hb : b ≤ 1000) (hT : ∀ z ∈ T, -1000000000000 ≤ z ∧ z ≤ 1000000000000) (hS : ∀ z ∈ S, -b ≤ z ∧ z ≤ b) :
    Calls Try.prog 86 #[.agg #[.slice A n c, .int .i64 D], .slice B n cb] w fun e w' => e = .returned (.int .i64 v) ∧ Below w.heap.size w w' := by
  have HX := Lib.hid hx
  have HY := Lib.hid hy
  have HV := Lib.hid hv
  have HT := Lib.hid hT
  have HS := Lib.hid hS
  clear hx hy hv hT hS
  go_enter Try.func86, Try.ntmps86
  go_wp2_with fail
  generalize hwn : (w.alloc (.cells #[.slice A n c, .int .i64 (D)] 45)) = w1
  have hbn : Below w.heap.size w w1 := by rw [← hwn]; repeat' (first | exact Below.refl _ _ | refine below_drewN ?_ _ | refine Below.drew ?_ | refine Below.alloc ?_ (by first | omega | (simp; done) | (simp; omega) | (simp [World.setCell]; omega)) _ | refine Below.setCell ?_ (by first | omega | (simp; done) | (simp; omega)) _)
  have HB1 := Lib.hid (show Below w.heap.size w w1 from hbn)
  have K0_1 := Lib.hid (show Blk w1 (w.heap.size) 45 #[.slice A n c, .int .i64 (D)] by rw [← hwn]; repeat' (first | exact Blk.at_ _ (by first | rfl | (simp; done) | (simp; omega)) _ _ | refine Blk.drewN ?_ _ | refine Blk.drew ?_ | refine Blk.alloc ?_ _ | refine Blk.far ?_ (by first | omega | (simp; done) | (simp; omega)) _ | assumption))
  have HN1 := Lib.hid hbn
  have hz1 := hbn.size
  clear hwn hbn
  have l0_1 : w.heap.size < w1.heap.size := K0_1.out.lt
  have z0_0_1 : w1.cell? ⟨w.heap.size, 0, none⟩ = some (.slice A n c) := K0_1.out.cell 0
  have z0_1_1 : w1.cell? ⟨w.heap.size, 1, none⟩ = some (.int .i64 (D)) := K0_1.out.cell 1
  go_loopw [5, 11] (fun s i wr => ∃ k : Nat, k ≤ n ∧ s = .int .i64 (dotTo T S k) ∧ i = .int .i64 k ∧ Below w1.heap.size w1 wr) (fun _ i _ => n - (intOf i).toNat)
  case atStart => exact ⟨0, by omega, rfl, rfl, Below.refl _ _⟩
  case round =>
    obtain ⟨k, hk, rfl, rfl, hbl⟩ := hrel
    have hb' := HB1.out.trans (hbl.mono HB1.out.size)
    have HBR := Lib.hid hbl
    have HBW := Lib.hid hb'
    clear hbl
    by_cases hlt : k < n
    · obtain ⟨xb, xo, x, rfl, -, hx, c0⟩ := (HX.out.below hb').int_ hlt
      obtain ⟨yb, yo, y, rfl, -, hy, c1⟩ := (HY.out.below hb').int_ hlt
      have i1 := dotTo_in h0 hb HT.out HS.out k (by omega)
      have i2 := dotTo_in h0 hb HT.out HS.out (k + 1) (by omega)
      have hsn := dotTo_succ hx hy
      have hm := mulb (HT.out x (List.mem_of_getElem? hx)) (HS.out y (List.mem_of_getElem? hy)) (by decide) h0
      have e0 : 1000000000000 * b ≤ 1000000000000000 := by omega
      have e1 : 1000000000000 * b * (k : Int) ≤ 1000000000000000 * 3 := by
        have := Int.mul_le_mul (show 1000000000000 * b ≤ 1000000000000000 by omega) (show (k : Int) ≤ 3 by omega) (by omega) (by decide)
        exact this
      have e2 : 1000000000000 * b * ((k + 1 : Nat) : Int) ≤ 1000000000000000 * 3 := by
        have := Int.mul_le_mul (show 1000000000000 * b ≤ 1000000000000000 by omega) (show ((k + 1 : Nat) : Int) ≤ 3 by omega) (by omega) (by decide)
        exact this
      obtain ⟨s, hs⟩ : ∃ s, dotTo T S k = s := ⟨_, rfl⟩
      rw [hs] at i1 hsn ⊢
      rw [hsn] at i2
      have v1 := IntWalk.i64_in (x * y) ⟨by omega, by omega⟩
      have v2 := IntWalk.i64_in (s + x * y) ⟨by omega, by omega⟩
      have HSN := Lib.hid hsn
      have hkk : (k : Int) < (n : Int) := by omega
      clear hx hy hs i1 i2 hsn hm e0 e1 e2 hb'
      go_wp2
      go_roundw
      case rel => exact ⟨k + 1, by omega, by rw [HSN.out], by go_num, HBR.out⟩
      case measure => simp [intOf]; omega
    · obtain rfl : n = k := by omega
      rw [HV.out]
      clear hb'
      go_wp2
      go_ret
      exact ⟨rfl, HBW.out⟩
end Go.Proofs.Ytdidcpealabaiaa

end
