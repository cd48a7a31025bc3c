import Derived.Test.YtkfecbkcghmmhaaQ6
import Derived.Test.YtkfecbkcghmmhaaQ3
import Derived.Test.YtkfecbkcghmmhaaQ4

section
/- Classes of worlds for a drawn region of calls whose results are known only behind them: what is chosen keeps its facts. -/
namespace Go.Proofs.Ytkfecbkcghmmhaa
open Go Go.RowKit

@[go_sem] theorem held_arr2 : Try.prog.stoodInHeld 43 = false := by kernel_rfl
@[go_sem] theorem guard_arr2 : Try.prog.eqGuardType Try.prog.depth 43 = false := by kernel_rfl
theorem eq_arr2 (a b c d : Int) (w : World) : (Op.equalIn 10000 43 (.agg #[.int .i64 a, .int .i64 b]) (.agg #[.int .i64 c, .int .i64 d])).run Try.prog w = .ok (decide ((a, b) = (c, d))) w := by
  have h0 : (sizeOf 3).run Try.prog w = .ok 1 w := by kernel_rfl
  have p0 : ∀ u v : Value, (part 3 #[u, v] 0).run Try.prog w = .ok u w := fun _ _ => by kernel_rfl
  have p1 : ∀ u v : Value, (part 3 #[u, v] 1).run Try.prog w = .ok v w := fun _ _ => by kernel_rfl
  have q : ∀ u v : Int, (Op.equalIn 9999 3 (.int .i64 u) (.int .i64 v)).run Try.prog w = .ok (u == v) w := fun u v => run_equalIn_int w 9998 _ .i64 .i64 u v Try.underlying3
  show (Op.equalIn (9999 + 1) _ _ _).run _ w = _
  rw [Op.equalIn.eq_def]
  simp only [Sem.run_bind, run_underlying Try.underlying43, Result.andThen_ok, h0]
  rw [Std.Legacy.Range.forIn_eq_forIn_range']
  simp [List.range', p0, p1, q, Sem.run_bind]
  by_cases h1 : a = c <;> by_cases h2 : b = d <;> simp [h1, h2, p0, p1, q]
@[go_sem ↓ high] theorem eql_arr2 (a b c d : Int) (w : World) : (binOp .eql 43 (.agg #[.int .i64 a, .int .i64 b]) (.agg #[.int .i64 c, .int .i64 d])).run Try.prog w = .ok (.bool (decide ((a, b) = (c, d)))) w := by
  rw [run_eql_struct, eq_arr2]; rfl
@[go_sem ↓ high] theorem neq_arr2 (a b c d : Int) (w : World) : (binOp .neq 43 (.agg #[.int .i64 a, .int .i64 b]) (.agg #[.int .i64 c, .int .i64 d])).run Try.prog w = .ok (.bool (!decide ((a, b) = (c, d)))) w := by
  rw [run_neq_struct, eq_arr2]; rfl

abbrev Pick2 := Pick × Pick
def Stb (Pf : Nat → Pick2 → World → Prop) : Prop := ∀ i x (w w' : World), Below w.heap.size w w' → Pf i x w → Pf i x w'
structure Kp (Pf : Nat → Pick2 → World → Prop) (W : World) (g : Nat → Option Pick2) (w' : World) : Prop where
  bel : Below W.heap.size W w'
  has : ∀ i x, g i = some x → Pf i x w'
section
variable {Pf : Nat → Pick2 → World → Prop} {W w' w'' : World} {g : Nat → Option Pick2} {f : Nat → Bool}
theorem Kp.start : Kp Pf W (fun _ => none) (W.drewN 1) := ⟨below_drewN (Below.refl _ _) 1, fun _ _ h => nomatch h⟩
theorem Kp.call (h : Kp Pf W g w') (hs : Stb Pf) (hb : Below w'.heap.size w' w'') : Kp Pf W g w'' := ⟨step_below hb h.bel, fun i x hx => hs i x _ _ hb (h.has i x hx)⟩
theorem Kp.choose (h : Kp Pf W g w') (hs : Stb Pf) (hb : Below w'.heap.size w' w'') (i : Nat) (x : Pick2) (hx : Pf i x w'') : Kp Pf W (Fx.upd g i x) w'' := ⟨step_below hb h.bel, fun j y hy => by
  by_cases e : j = i
  · subst e
    rw [Fx.upd_same] at hy
    cases hy
    exact hx
  · rw [upd_ne e] at hy
    exact hs j y _ _ hb (h.has j y hy)⟩
/-- The same, with a block of two cells that operation c makes and operation s stores into. -/
structure KpS (Pf : Nat → Pick2 → World → Prop) (T : TypeId) (v0 v1 : Value) (c s : Nat) (W : World) (g : Nat → Option Pick2) (f : Nat → Bool) (w' : World) : Prop where
  bel : Below W.heap.size W w'
  has : f s = false → ∀ i x, g i = some x → i ≠ c → Pf i x w'
  made : ∀ x, g c = some x → ∃ b, x.1.1 = some ⟨b, 0, none⟩ ∧ W.heap.size ≤ b ∧ ∃ e0 e1, Blk w' b T #[e0, e1] ∧ (f s = true → e0 = v0 ∧ e1 = v1)
variable {T : TypeId} {v0 v1 : Value} {c s k : Nat}
theorem KpS.start : KpS Pf T v0 v1 c s W (fun _ => none) f (W.drewN 1) := ⟨below_drewN (Below.refl _ _) 1, fun _ _ _ h => (nomatch h), fun _ h => (nomatch h)⟩
theorem KpS.same (h : KpS Pf T v0 v1 c s W g f w') (hk : k ≠ s) : KpS Pf T v0 v1 c s W g (Fx.add f k) w' := ⟨h.bel, fun hf => h.has (by rwa [add_ne' hk] at hf), fun x hx => by
  obtain ⟨b, h0, h1, e0, e1, h2, h3⟩ := h.made x hx
  exact ⟨b, h0, h1, e0, e1, h2, fun hf => h3 (by rwa [add_ne' hk] at hf)⟩⟩
theorem KpS.call (h : KpS Pf T v0 v1 c s W g f w') (hs : Stb Pf) (hk : k ≠ s) (hb : Below w'.heap.size w' w'') : KpS Pf T v0 v1 c s W g (Fx.add f k) w'' := ⟨step_below hb h.bel, fun hf i x hx hi => hs i x _ _ hb (h.has (by rwa [add_ne' hk] at hf) i x hx hi), fun x hx => by
  obtain ⟨b, h0, h1, e0, e1, h2, h3⟩ := h.made x hx
  exact ⟨b, h0, h1, e0, e1, h2.below hb h2.lt, fun hf => h3 (by rwa [add_ne' hk] at hf)⟩⟩
theorem KpS.choose (h : KpS Pf T v0 v1 c s W g f w') (hs : Stb Pf) (hb : Below w'.heap.size w' w'') (i : Nat) (x : Pick2) (hi : i ≠ s) (hc : i ≠ c) (hx : Pf i x w'') : KpS Pf T v0 v1 c s W (Fx.upd g i x) (Fx.add f i) w'' := ⟨step_below hb h.bel, fun hf j y hy hj => by
  by_cases e : j = i
  · subst e
    rw [Fx.upd_same] at hy
    cases hy
    exact hx
  · rw [upd_ne e] at hy
    exact hs j y _ _ hb (h.has (by rwa [add_ne' hi] at hf) j y hy hj), fun y hy => by
  rw [upd_ne hc.symm] at hy
  obtain ⟨b, h0, h1, e0, e1, h2, h3⟩ := h.made y hy
  exact ⟨b, h0, h1, e0, e1, h2.below hb h2.lt, fun hf => h3 (by rwa [add_ne' hi] at hf)⟩⟩
theorem KpS.make {a b : Value} (h : KpS Pf T v0 v1 c s W g f w') (hs : Stb Pf) (hf : f s = false) (hc : c ≠ s) : KpS Pf T v0 v1 c s W (Fx.upd g c ((some ⟨w'.heap.size, 0, none⟩, 0), (none, 0))) (Fx.add f c) (w'.alloc (.cells #[a, b] T)) := ⟨h.bel.alloc h.bel.size _, fun _ j y hy hj => by
  rw [upd_ne hj] at hy
  exact hs j y _ _ ((Below.refl _ _).alloc (Nat.le_refl _) _) (h.has hf j y hy hj), fun y hy => by
  rw [Fx.upd_same] at hy
  cases hy
  refine ⟨w'.heap.size, rfl, h.bel.size, a, b, Blk.new _ _ _, fun e => ?_⟩
  rw [add_ne' hc, hf] at e
  cases e⟩
theorem KpS.cells {x : Pick2} (h : KpS Pf T v0 v1 c s W g f w') (hx : g c = some x) : ∃ b e0 e1, x.1.1 = some ⟨b, 0, none⟩ ∧ W.heap.size ≤ b ∧ w'.cell? ⟨b, 0, none⟩ = some e0 ∧ w'.cell? ⟨b, 1, none⟩ = some e1 ∧ w'.frozen? ⟨b, 0, none⟩ = false ∧ w'.frozen? ⟨b, 1, none⟩ = false := by
  obtain ⟨b, h0, h1, e0, e1, h2, -⟩ := h.made x hx
  exact ⟨b, e0, e1, h0, h1, h2.cell 0, h2.cell 1, h2.frozen 0, h2.frozen 1⟩
theorem KpS.store {x : Pick2} {b : Nat} (h : KpS Pf T v0 v1 c s W g f w') (hx : g c = some x) (hb : x.1.1 = some ⟨b, 0, none⟩) : KpS Pf T v0 v1 c s W g (Fx.add f s) ((w'.setCell ⟨b, 0, none⟩ v0).setCell ⟨b, 1, none⟩ v1) := by
  obtain ⟨b', h0, h1, e0, e1, h2, -⟩ := h.made x hx
  rw [hb] at h0
  cases h0
  refine ⟨below_store h.bel h1, fun hf => (by rw [add_same] at hf; cases hf), fun y hy => ?_⟩
  rw [hx] at hy
  cases hy
  refine ⟨b, hb, h1, v0, v1, ?_, fun _ => ⟨rfl, rfl⟩⟩
  have := (h2.set_ 0 v0).set_ 1 v1
  simpa using this
theorem KpS.end_ {x : Pick2} (h : KpS Pf T v0 v1 c s W g f w') (hx : g c = some x) (hf : f s = true) : ∃ b, x.1.1 = some ⟨b, 0, none⟩ ∧ W.heap.size ≤ b ∧ Blk w' b T #[v0, v1] := by
  obtain ⟨b, h0, h1, e0, e1, h2, h3⟩ := h.made x hx
  obtain ⟨rfl, rfl⟩ := h3 hf
  exact ⟨b, h0, h1, h2⟩
end

/-- What is known of copies: of a mounting (operation ci), of targets (operation ti), of numbers (operation ki). -/
def PfT (m : Mnt) (n : Nat) (l : List Tgt) (q : Nat) (ks : List Int) (ci ti ki : Nat) (i : Nat) (x : Pick2) (w : World) : Prop :=
  (i = ci → MntAt (m.to x.1.1 x.1.2 x.2.1 x.2.2) w) ∧ (i = ti → Reads w w.heap.size 6 x.1.1 n (tgtCells l) ∧ (n ≤ x.1.2 ∧ x.1.2 ≤ 9223372036854775807)) ∧ (i = ki → Reads w w.heap.size 1 x.1.1 q (ks.map (.int .i64)) ∧ (q ≤ x.1.2 ∧ x.1.2 ≤ 9223372036854775807))
def valT (m : Mnt) (n q ci ti : Nat) (i : Nat) (x : Pick2) : Value := if i = ci then (m.to x.1.1 x.1.2 x.2.1 x.2.2).val else if i = ti then .slice x.1.1 n x.1.2 else .slice x.1.1 q x.1.2
/-- What is known of a copy of a mounting (operation ci) and of a list of numbers (operation ki). -/
def PfQ (m : Mnt) (q : Nat) (ks : List Int) (ci ki : Nat) (i : Nat) (x : Pick2) (w : World) : Prop :=
  (i = ci → MntAt (m.to x.1.1 x.1.2 x.2.1 x.2.2) w) ∧ (i = ki → Reads w w.heap.size 1 x.1.1 q (ks.map (.int .i64)))
end Go.Proofs.Ytkfecbkcghmmhaa

end

section
/- Contracts of chapter 6: the checks of heights, wear, enclosures and tolerances; the bound of two zones. -/
namespace Go.Proofs.Ytkfecbkcghmmhaa
open Go Go.RowKit

theorem size_is (a n : Int) (hn : (a.natAbs : Int) = n) (w : World) (h1 : -1000000000000000000 ≤ a) (h2 : a ≤ 1000000000000000000) :
    Calls Try.prog 53 #[.int .i64 a] w fun e w' => e = .returned (.int .i64 n) ∧ w = w' := by
  have e1 := IntWalk.i64_in (-a) ⟨by omega, by omega⟩
  have HN := Lib.hid hn
  clear hn
  go_enter Try.func53, Try.ntmps53
  go_wp2
  all_goals go_ret
  all_goals exact ⟨ret_int (by have := HN.out; omega), rfl⟩
theorem iszones_is (n : Int) (t : Bool) (ht : withinB n 1 40 = t) (w : World) : Calls Try.prog 36 #[.int .i64 n] w fun e w' => e = .returned (.bool t) ∧ w = w' := by
  have HT := Lib.hid ht
  clear ht
  go_enter Try.func36, Try.ntmps36
  go_wp2_with fail
  refine (withinfig_is _ _ _ t HT.out _).mono ?_
  rintro e w' ⟨rfl, rfl⟩
  go_wp2
  go_ret
  exact ⟨rfl, rfl⟩
theorem zones_no {n : Nat} (h : withinB (n : Int) 1 40 = false) : n < 1 ∨ 40 < n := by have := within_no h; omega
theorem zones_yes {n : Nat} (h : withinB (n : Int) 1 40 = true) : ¬ (n < 1 ∨ 40 < n) := by have := within_yes h; omega

theorem tol_is (p s E : Int) (hE : tolErr p s = E) (w : World) : Calls Try.prog 45 #[.agg #[.int .i64 p, .int .i64 s]] w fun e w' => e = .returned (.int .i64 E) ∧ Below w.heap.size w w' := by
  unfold tolErr at hE
  cases h1 : withinB p 0 200000
  · rw [h1] at hE
    simp only [Bool.false_and, Bool.false_eq_true, if_false] at hE
    subst hE
    have H1 := Lib.hid h1
    clear h1
    go_enter Try.func45, Try.ntmps45
    go_wp2_with fail
    refine (withinfig_is _ _ _ false H1.out _).mono ?_
    rintro e w' ⟨rfl, rfl⟩
    go_wp2
    go_ret
    exact ⟨rfl, by repeat' (first | exact Below.refl _ _ | exact HB0.out | refine below_drewN ?_ _ | refine Below.drew ?_ | refine Below.alloc ?_ (by first | omega | (simp; done) | (simp; omega) | (simp [World.setCell]; omega)) _ | refine Below.setCell ?_ (by first | omega | (simp; done) | (simp; omega)) _ | assumption)⟩
  · rw [h1] at hE
    have H1 := Lib.hid h1
    cases h2 : withinB s 0 200000
    all_goals
      rw [h2] at hE
      simp only [Bool.and_true, Bool.and_false, Bool.true_and, Bool.false_eq_true, if_false, if_true] at hE
      subst hE
      have H2 := Lib.hid h2
      clear h1 h2
    · go_enter Try.func45, Try.ntmps45
      go_wp2_with fail
      refine (withinfig_is _ _ _ true H1.out _).mono ?_
      rintro e w' ⟨rfl, rfl⟩
      go_wp2_with fail
      refine (withinfig_is _ _ _ false H2.out _).mono ?_
      rintro e w' ⟨rfl, rfl⟩
      go_wp2
      go_ret
      exact ⟨rfl, by repeat' (first | exact Below.refl _ _ | exact HB0.out | refine below_drewN ?_ _ | refine Below.drew ?_ | refine Below.alloc ?_ (by first | omega | (simp; done) | (simp; omega) | (simp [World.setCell]; omega)) _ | refine Below.setCell ?_ (by first | omega | (simp; done) | (simp; omega)) _ | assumption)⟩
    · go_enter Try.func45, Try.ntmps45
      go_wp2_with fail
      refine (withinfig_is _ _ _ true H1.out _).mono ?_
      rintro e w' ⟨rfl, rfl⟩
      go_wp2_with fail
      refine (withinfig_is _ _ _ true H2.out _).mono ?_
      rintro e w' ⟨rfl, rfl⟩
      go_wp2
      go_ret
      exact ⟨rfl, by repeat' (first | exact Below.refl _ _ | exact HB0.out | refine below_drewN ?_ _ | refine Below.drew ?_ | refine Below.alloc ?_ (by first | omega | (simp; done) | (simp; omega) | (simp [World.setCell]; omega)) _ | refine Below.setCell ?_ (by first | omega | (simp; done) | (simp; omega)) _ | assumption)⟩

theorem encl_at {l : List (Int × Int)} {k n : Nat} {p : Int × Int} {E : Int} (hl : l.length = n) (hz : ¬ (n < 1 ∨ 40 < n)) (hp : l[k]? = some p) (hb : ∀ x ∈ l.take k, figErr x = 0) (he : figErr p = E) (h0 : E ≠ 0) : enclErr l = E := by
  unfold enclErr
  rw [hl, if_neg hz, firstErr_at hp hb (by rw [he]; exact h0), he]
theorem encl_all {l : List (Int × Int)} {n : Nat} (hl : l.length = n) (hz : ¬ (n < 1 ∨ 40 < n)) (hb : ∀ x ∈ l.take n, figErr x = 0) : enclErr l = 0 := by
  unfold enclErr
  rw [hl, if_neg hz, firstErr_ok (by rwa [List.take_of_length_le (by omega)] at hb)]

set_option maxRecDepth 100000 in
theorem encl_is (A : Option Addr) (n c : Nat) (l : List (Int × Int)) (E : Int) (hE : enclErr l = E) (w : World) (hx : Reads w w.heap.size 2 A n (cells2 l)) :
    Calls Try.prog 44 #[.slice A n c] w fun e w' => e = .returned (.int .i64 E) ∧ Below w.heap.size w w' := by
  have hl := hx.len2
  have HE := Lib.hid hE
  have HL := Lib.hid hl
  clear hE hl
  cases hz : withinB (n : Int) 1 40
  · have e : (10 : Int) = E := by rw [← HE.out]; unfold enclErr; rw [HL.out, if_pos (zones_no hz)]
    have HEE := Lib.hid e
    have HZ := Lib.hid hz
    clear hz hx e
    go_enter Try.func44, Try.ntmps44
    go_wp2_with fail
    refine (iszones_is _ false HZ.out _).mono ?_
    rintro e w' ⟨rfl, rfl⟩
    go_wp2
    go_ret
    exact ⟨ret_int HEE.out, Below.refl _ _⟩
  have hn40 : n ≤ 40 := by have := within_yes hz; omega
  have HN := Lib.hid (zones_yes hz)
  have HZ := Lib.hid hz
  have HX := Lib.hid hx
  clear hz hx
  go_enter Try.func44, Try.ntmps44
  go_wp2_with fail
  refine (iszones_is _ true HZ.out _).mono ?_
  rintro e w' ⟨rfl, rfl⟩
  go_wp2
  go_loopw [11] (fun i wr => ∃ k : Nat, k ≤ n ∧ i = .int .i64 k ∧ Below w.heap.size w wr ∧ ∀ x ∈ l.take k, figErr x = 0) (fun i _ => n - (intOf i).toNat)
  case atStart => exact ⟨0, by omega, rfl, Below.refl _ _, by simp⟩
  case round =>
    obtain ⟨k, hk, rfl, hb, hup⟩ := hrel
    obtain ⟨w1, hnm⟩ : ∃ z : World, z = wr := ⟨_, rfl⟩
    subst hnm
    have HUP := Lib.hid hup
    have hrd : Reads w1 w1.heap.size 2 A n (cells2 l) := (HX.out.below hb).more hb.size
    clear hup
    by_cases hlt : k < n
    · have hzb := hb.size
      have HB1 := Lib.hid hb
      clear hb
      obtain ⟨xb, xo, p, rfl, hxb, hp, c0, c1⟩ := hrd.pair hlt
      have HP := Lib.hid hp
      clear hp hrd
      obtain ⟨pa, pv⟩ := p
      simp only at c0 c1
      have hkk : (k : Int) < (n : Int) := by omega
      cases h1 : hgtB pa
      · have H1 := Lib.hid h1
        have HEE := Lib.hid (encl_at HL.out HN.out HP.out HUP.out (show figErr (pa, pv) = 2 by unfold figErr; simp [h1]) (by decide))
        clear h1
        go_wp2_with fail
        refine (withinfig_is _ _ _ false H1.out _).mono ?_
        rintro e w' ⟨rfl, rfl⟩
        go_wp2
        go_ret
        exact ⟨ret_int (HEE.out.symm.trans HE.out), by repeat' (first | exact Below.refl _ _ | exact HB1.out | refine below_drewN ?_ _ | refine Below.drew ?_ | refine Below.alloc ?_ (by first | omega | (simp; done) | (simp; omega) | (simp [World.setCell]; omega)) _ | refine Below.setCell ?_ (by first | omega | (simp; done) | (simp; omega)) _ | assumption)⟩
      have H1 := Lib.hid h1
      cases h2 : hgtB pv
      · have H2 := Lib.hid h2
        have HEE := Lib.hid (encl_at HL.out HN.out HP.out HUP.out (show figErr (pa, pv) = 2 by unfold figErr; simp [h1, h2]) (by decide))
        clear h1 h2
        go_wp2_with fail
        refine (withinfig_is _ _ _ true H1.out _).mono ?_
        rintro e w' ⟨rfl, rfl⟩
        go_wp2_with fail
        refine (withinfig_is _ _ _ false H2.out _).mono ?_
        rintro e w' ⟨rfl, rfl⟩
        go_wp2
        go_ret
        exact ⟨ret_int (HEE.out.symm.trans HE.out), by repeat' (first | exact Below.refl _ _ | exact HB1.out | refine below_drewN ?_ _ | refine Below.drew ?_ | refine Below.alloc ?_ (by first | omega | (simp; done) | (simp; omega) | (simp [World.setCell]; omega)) _ | refine Below.setCell ?_ (by first | omega | (simp; done) | (simp; omega)) _ | assumption)⟩
      have H2 := Lib.hid h2
      by_cases hle : pv < pa
      · have HEE := Lib.hid (encl_at HL.out HN.out HP.out HUP.out (show figErr (pa, pv) = 9 by unfold figErr; simp [h1, h2, hle]) (by decide))
        clear h1 h2
        go_wp2_with fail
        refine (withinfig_is _ _ _ true H1.out _).mono ?_
        rintro e w' ⟨rfl, rfl⟩
        go_wp2_with fail
        refine (withinfig_is _ _ _ true H2.out _).mono ?_
        rintro e w' ⟨rfl, rfl⟩
        go_wp2
        go_ret
        exact ⟨ret_int (HEE.out.symm.trans HE.out), by repeat' (first | exact Below.refl _ _ | exact HB1.out | refine below_drewN ?_ _ | refine Below.drew ?_ | refine Below.alloc ?_ (by first | omega | (simp; done) | (simp; omega) | (simp [World.setCell]; omega)) _ | refine Below.setCell ?_ (by first | omega | (simp; done) | (simp; omega)) _ | assumption)⟩
      · have HU := Lib.hid (take_ok HP.out HUP.out (show figErr (pa, pv) = 0 by unfold figErr; simp [h1, h2, hle]))
        clear h1 h2
        go_wp2_with fail
        refine (withinfig_is _ _ _ true H1.out _).mono ?_
        rintro e w' ⟨rfl, rfl⟩
        go_wp2_with fail
        refine (withinfig_is _ _ _ true H2.out _).mono ?_
        rintro e w' ⟨rfl, rfl⟩
        go_wp2
        go_roundw
        case rel => exact ⟨k + 1, by omega, by go_num, by repeat' (first | exact Below.refl _ _ | exact HB1.out | refine below_drewN ?_ _ | refine Below.drew ?_ | refine Below.alloc ?_ (by first | omega | (simp; done) | (simp; omega) | (simp [World.setCell]; omega)) _ | refine Below.setCell ?_ (by first | omega | (simp; done) | (simp; omega)) _ | assumption), HU.out⟩
        case measure => simp [intOf]; omega
    · obtain rfl : n = k := by omega
      have HEE := Lib.hid (encl_all HL.out HN.out HUP.out)
      have HB := Lib.hid hb
      clear hrd hb
      go_wp2
      go_ret
      exact ⟨ret_int (HEE.out.symm.trans HE.out), HB.out⟩

theorem all_is (A : Option Addr) (n c : Nat) (l : List (Int × Int)) (p s E : Int) (hE : judgeErr l p s = E) (w : World) (hx : Reads w w.heap.size 2 A n (cells2 l)) :
    Calls Try.prog 28 #[.slice A n c, .agg #[.int .i64 p, .int .i64 s]] w fun e w' => e = .returned (.int .i64 E) ∧ Below w.heap.size w w' := by
  unfold judgeErr at hE
  obtain ⟨E1, hE1⟩ : ∃ E1, enclErr l = E1 := ⟨_, rfl⟩
  rw [hE1] at hE
  have HE1 := Lib.hid hE1
  clear hE1
  by_cases h0 : E1 = 0
  rotate_left
  · rw [if_pos h0] at hE
    subst hE
    have e1 : (E1 != 0) = true := by simpa using h0
    clear h0
    go_enter Try.func28, Try.ntmps28
    have R0_0 := Lib.hid hx
    clear hx
    go_wp2_with fail
    refine (encl_is A n c l E1 HE1.out _ ((R0_0.out.alloc (Nat.le_refl _) _).more (by simp))).mono ?_
    rintro e w1 ⟨rfl, hb⟩
    have HB1 := Lib.hid (show Below w.heap.size w w1 from step_below hb (by repeat' (first | exact Below.refl _ _ | exact HB0.out | refine below_drewN ?_ _ | refine Below.drew ?_ | refine Below.alloc ?_ (by first | omega | (simp; done) | (simp; omega) | (simp [World.setCell]; omega)) _ | refine Below.setCell ?_ (by first | omega | (simp; done) | (simp; omega)) _ | assumption)))
    have K0_1 := Lib.hid (step_blk hb (show Blk _ (w.heap.size) 58 #[.int .i64 (p), .int .i64 (s)] by repeat' (first | exact Blk.at_ _ (by first | rfl | (simp; done) | (simp; omega)) _ _ | refine Blk.drewN ?_ _ | refine Blk.drew ?_ | refine Blk.alloc ?_ _ | refine Blk.far ?_ (by first | omega | (simp; done) | (simp; omega)) _ | assumption)))
    have hL1 := Lib.hid (show Below w.heap.size w _ from reads_mid hb (by repeat' (first | exact Below.refl _ _ | refine below_drewN ?_ _ | refine Below.drew ?_ | refine Below.alloc ?_ (by first | omega | (simp; done) | (simp; omega) | (simp [World.setCell]; omega)) _ | refine Below.setCell ?_ (by first | omega | (simp; done) | (simp; omega)) _)))
    have R0_1 := Lib.hid (reads_lay hb hL1.out R0_0.out)
    clear hL1 R0_0
    have hz1 := hb.size
    try simp only [World.size_alloc, World.drewN, World.drew] at hz1
    clear hb
    have l0_1 : w.heap.size < w1.heap.size := K0_1.out.lt
    have z0_0_1 : w1.cell? ⟨w.heap.size, 0, none⟩ = some (.int .i64 (p)) := K0_1.out.cell 0
    have z0_1_1 : w1.cell? ⟨w.heap.size, 1, none⟩ = some (.int .i64 (s)) := K0_1.out.cell 1
    go_wp2
    go_ret
    exact ⟨rfl, by repeat' (first | exact Below.refl _ _ | exact HB1.out | refine below_drewN ?_ _ | refine Below.drew ?_ | refine Below.alloc ?_ (by first | omega | (simp; done) | (simp; omega) | (simp [World.setCell]; omega)) _ | refine Below.setCell ?_ (by first | omega | (simp; done) | (simp; omega)) _ | assumption)⟩
  subst h0
  rw [if_neg (by simp)] at hE
  have HE := Lib.hid hE
  clear hE
  go_enter Try.func28, Try.ntmps28
  have R0_0 := Lib.hid hx
  clear hx
  go_wp2_with fail
  refine (encl_is A n c l 0 HE1.out _ ((R0_0.out.alloc (Nat.le_refl _) _).more (by simp))).mono ?_
  rintro e w1 ⟨rfl, hb⟩
  have HB1 := Lib.hid (show Below w.heap.size w w1 from step_below hb (by repeat' (first | exact Below.refl _ _ | exact HB0.out | refine below_drewN ?_ _ | refine Below.drew ?_ | refine Below.alloc ?_ (by first | omega | (simp; done) | (simp; omega) | (simp [World.setCell]; omega)) _ | refine Below.setCell ?_ (by first | omega | (simp; done) | (simp; omega)) _ | assumption)))
  have K0_1 := Lib.hid (step_blk hb (show Blk _ (w.heap.size) 58 #[.int .i64 (p), .int .i64 (s)] by repeat' (first | exact Blk.at_ _ (by first | rfl | (simp; done) | (simp; omega)) _ _ | refine Blk.drewN ?_ _ | refine Blk.drew ?_ | refine Blk.alloc ?_ _ | refine Blk.far ?_ (by first | omega | (simp; done) | (simp; omega)) _ | assumption)))
  have hL1 := Lib.hid (show Below w.heap.size w _ from reads_mid hb (by repeat' (first | exact Below.refl _ _ | refine below_drewN ?_ _ | refine Below.drew ?_ | refine Below.alloc ?_ (by first | omega | (simp; done) | (simp; omega) | (simp [World.setCell]; omega)) _ | refine Below.setCell ?_ (by first | omega | (simp; done) | (simp; omega)) _)))
  have R0_1 := Lib.hid (reads_lay hb hL1.out R0_0.out)
  clear hL1 R0_0
  have hz1 := hb.size
  try simp only [World.size_alloc, World.drewN, World.drew] at hz1
  clear hb
  have l0_1 : w.heap.size < w1.heap.size := K0_1.out.lt
  have z0_0_1 : w1.cell? ⟨w.heap.size, 0, none⟩ = some (.int .i64 (p)) := K0_1.out.cell 0
  have z0_1_1 : w1.cell? ⟨w.heap.size, 1, none⟩ = some (.int .i64 (s)) := K0_1.out.cell 1
  go_wp2_with fail
  refine (tol_is p s E HE.out _).mono ?_
  rintro e w2 ⟨rfl, hb⟩
  have HB2 := Lib.hid (show Below w.heap.size w w2 from step_below hb (by repeat' (first | exact Below.refl _ _ | exact HB1.out | refine below_drewN ?_ _ | refine Below.drew ?_ | refine Below.alloc ?_ (by first | omega | (simp; done) | (simp; omega) | (simp [World.setCell]; omega)) _ | refine Below.setCell ?_ (by first | omega | (simp; done) | (simp; omega)) _ | assumption)))
  have K0_2 := Lib.hid (step_blk hb (show Blk _ (w.heap.size) 58 #[.int .i64 (p), .int .i64 (s)] by repeat' (first | exact K0_1.out | exact Blk.at_ _ (by first | rfl | (simp; done) | (simp; omega)) _ _ | refine Blk.drewN ?_ _ | refine Blk.drew ?_ | refine Blk.alloc ?_ _ | refine Blk.far ?_ (by first | omega | (simp; done) | (simp; omega)) _ | assumption)))
  have hL2 := Lib.hid (show Below w1.heap.size w1 _ from reads_mid hb (by repeat' (first | exact Below.refl _ _ | refine below_drewN ?_ _ | refine Below.drew ?_ | refine Below.alloc ?_ (by first | omega | (simp; done) | (simp; omega) | (simp [World.setCell]; omega)) _ | refine Below.setCell ?_ (by first | omega | (simp; done) | (simp; omega)) _)))
  have R0_2 := Lib.hid (reads_lay hb hL2.out R0_1.out)
  clear hL2 R0_1
  have hz2 := hb.size
  try simp only [World.size_alloc, World.drewN, World.drew] at hz2
  clear hb K0_1 z0_0_1 z0_1_1 l0_1
  have l0_2 : w.heap.size < w2.heap.size := K0_2.out.lt
  have z0_0_2 : w2.cell? ⟨w.heap.size, 0, none⟩ = some (.int .i64 (p)) := K0_2.out.cell 0
  have z0_1_2 : w2.cell? ⟨w.heap.size, 1, none⟩ = some (.int .i64 (s)) := K0_2.out.cell 1
  go_wp2
  go_ret
  exact ⟨rfl, by repeat' (first | exact Below.refl _ _ | exact HB2.out | refine below_drewN ?_ _ | refine Below.drew ?_ | refine Below.alloc ?_ (by first | omega | (simp; done) | (simp; omega) | (simp [World.setCell]; omega)) _ | refine Below.setCell ?_ (by first | omega | (simp; done) | (simp; omega)) _ | assumption)⟩

theorem bound_is (p s : Int) (i k : Nat) (b : Int) (hb : bndF p s i k = b) (w : World) (h1 : 0 ≤ p) (h2 : p ≤ 200000) (h3 : 0 ≤ s) (h4 : s ≤ 200000) (hi : i ≤ 1000) (hk : k ≤ 1000) :
    Calls Try.prog 47 #[.agg #[.int .i64 p, .int .i64 s], .int .i64 (i : Int), .int .i64 (k : Int)] w fun e w' => e = .returned (.int .i64 b) ∧ Below w.heap.size w w' := by
  obtain ⟨z, hz⟩ : ∃ z : Int, (((i : Int) - (k : Int)).natAbs : Int) = z := ⟨_, rfl⟩
  obtain ⟨y, hy⟩ : ∃ y : Int, s * z = y := ⟨_, rfl⟩
  have hz0 : 0 ≤ z ∧ z ≤ 1000 := by omega
  have hy0 : 0 ≤ y ∧ y ≤ 200000000 := by
    rw [← hy]
    exact ⟨Int.mul_nonneg h3 hz0.1, by have := Int.mul_le_mul h4 hz0.2 hz0.1 (by omega); omega⟩
  have e1 := IntWalk.i64_in ((i : Int) - (k : Int)) ⟨by omega, by omega⟩
  have e2 : IntKind.i64.wrap (s * z) = y := by rw [hy]; exact IntWalk.i64_in y ⟨by omega, by omega⟩
  have hbb : (if p < y then p else y) = b := by rw [← hb]; unfold bndF; rw [hz, hy]; omega
  have hbb' : (if y < p then y else p) = b := by rw [← hb]; unfold bndF; rw [hz, hy]; omega
  have HZ := Lib.hid hz
  have HY := Lib.hid hy
  have HBB := Lib.hid hbb
  have HBB' := Lib.hid hbb'
  have HY0 := Lib.hid hy0
  clear hb hz hy hbb hbb' hy0
  go_enter Try.func47, Try.ntmps47
  go_wp2
  refine Fx.regionW (fun W f w' => Below W.heap.size W w') (by kernel_rfl) (by kernel_rfl) ?_ ?_
  · intro f hf0
    exact below_drewN (Below.refl _ _) 1
  repeat (first
    | (refine Fx.skip_ (by rfl) (fun f w h => h) ?_; simp only [Act.put, List.setIfInBounds_toArray, List.set_cons_zero, List.set_cons_succ])
    | (refine Fx.val_ ?_ (by rfl) ?_ (fun f w h => h) ?_
       rotate_left
       · intro f w' hD hk
         have hb := hD
         have kb0 := step_blk hb (show Blk _ (w.heap.size) 79 #[.int .i64 (p), .int .i64 (s)] by repeat' (first | exact Blk.at_ _ (by first | rfl | (simp; done) | (simp; omega)) _ _ | refine Blk.drewN ?_ _ | refine Blk.drew ?_ | refine Blk.alloc ?_ _ | refine Blk.far ?_ (by first | omega | (simp; done) | (simp; omega)) _ | assumption))
         have y0_0 : w'.cell? ⟨w.heap.size, 0, none⟩ = some (.int .i64 (p)) := kb0.cell 0
         have y0_1 : w'.cell? ⟨w.heap.size, 1, none⟩ = some (.int .i64 (s)) := kb0.cell 1
         clear kb0
         clear hk hD hb
         go_simp
         try rfl
       simp only [Act.put, List.setIfInBounds_toArray, List.set_cons_zero, List.set_cons_succ]))
  refine Fx.call_ (.int .i64 (z)) ?_ ?_ (by rfl) ?_ ?_ ?_
  rotate_left 2
  · intro w'
    go_simp
    refine ⟨?_, ?_⟩ <;> rfl
  · intro f w' hD hk
    exact (size_is _ z HZ.out w' (by omega) (by omega)).mono fun e w'' ⟨he, hw⟩ => ⟨he, hw ▸ hD⟩
  simp only [Act.put, List.setIfInBounds_toArray, List.set_cons_zero, List.set_cons_succ]
  repeat (first
    | (refine Fx.skip_ (by rfl) (fun f w h => h) ?_; simp only [Act.put, List.setIfInBounds_toArray, List.set_cons_zero, List.set_cons_succ])
    | (refine Fx.val_ ?_ (by rfl) ?_ (fun f w h => h) ?_
       rotate_left
       · intro f w' hD hk
         have hb := hD
         have kb0 := step_blk hb (show Blk _ (w.heap.size) 79 #[.int .i64 (p), .int .i64 (s)] by repeat' (first | exact Blk.at_ _ (by first | rfl | (simp; done) | (simp; omega)) _ _ | refine Blk.drewN ?_ _ | refine Blk.drew ?_ | refine Blk.alloc ?_ _ | refine Blk.far ?_ (by first | omega | (simp; done) | (simp; omega)) _ | assumption))
         have y0_0 : w'.cell? ⟨w.heap.size, 0, none⟩ = some (.int .i64 (p)) := kb0.cell 0
         have y0_1 : w'.cell? ⟨w.heap.size, 1, none⟩ = some (.int .i64 (s)) := kb0.cell 1
         clear kb0
         clear hk hD hb
         go_simp
         try rfl
       simp only [Act.put, List.setIfInBounds_toArray, List.set_cons_zero, List.set_cons_succ]))
  refine Fx.nil_ ?_
  intro f w1 hall hb
  try clear hall
  have HB01 := Lib.hid hb
  have HB1 := Lib.hid (show Below w.heap.size w w1 from step_below hb (by repeat' (first | exact Below.refl _ _ | exact HB0.out | refine below_drewN ?_ _ | refine Below.drew ?_ | refine Below.alloc ?_ (by first | omega | (simp; done) | (simp; omega) | (simp [World.setCell]; omega)) _ | refine Below.setCell ?_ (by first | omega | (simp; done) | (simp; omega)) _ | assumption)))
  have K0_1 := Lib.hid (step_blk hb (show Blk _ (w.heap.size) 79 #[.int .i64 (p), .int .i64 (s)] by repeat' (first | exact Blk.at_ _ (by first | rfl | (simp; done) | (simp; omega)) _ _ | refine Blk.drewN ?_ _ | refine Blk.drew ?_ | refine Blk.alloc ?_ _ | refine Blk.far ?_ (by first | omega | (simp; done) | (simp; omega)) _ | assumption)))
  have hz1 := hb.size
  try simp only [World.size_alloc, World.drewN, World.drew] at hz1
  clear hb
  have l0_1 : w.heap.size < w1.heap.size := K0_1.out.lt
  have z0_0_1 : w1.cell? ⟨w.heap.size, 0, none⟩ = some (.int .i64 (p)) := K0_1.out.cell 0
  have z0_1_1 : w1.cell? ⟨w.heap.size, 1, none⟩ = some (.int .i64 (s)) := K0_1.out.cell 1
  simp only [HBB'.out]
  go_wp2
  go_ret
  exact ⟨rfl, by repeat' (first | exact Below.refl _ _ | exact HB1.out | refine below_drewN ?_ _ | refine Below.drew ?_ | refine Below.alloc ?_ (by first | omega | (simp; done) | (simp; omega) | (simp [World.setCell]; omega)) _ | refine Below.setCell ?_ (by first | omega | (simp; done) | (simp; omega)) _ | assumption)⟩
end Go.Proofs.Ytkfecbkcghmmhaa

end
