import Derived.Test.YtdidcpealabaiaaQ18
import Derived.Test.YtdidcpealabaiaaQ13
import Derived.Test.YtdidcpealabaiaaQ17

section
/- Classes of worlds for a drawn region of calls whose results are known only behind them: what is chosen keeps its facts. -/
namespace Go.Proofs.Ytdidcpealabaiaa
open Go Go.RowKit

@[go_sem] theorem held_arr2 : Try.prog.stoodInHeld 60 = false := by kernel_rfl
@[go_sem] theorem guard_arr2 : Try.prog.eqGuardType Try.prog.depth 60 = false := by kernel_rfl
theorem eq_arr2 (a b c d : Int) (w : World) : (Op.equalIn 10000 60 (.agg #[.int .i64 a, .int .i64 b]) (.agg #[.int .i64 c, .int .i64 d])).run Try.prog w = .ok (decide ((a, b) = (c, d))) w := by
  have h0 : (sizeOf 3).run Try.prog w = .ok 1 w := by kernel_rfl
  have p0 : ∀ u v : Value, (part 3 #[u, v] 0).run Try.prog w = .ok u w := fun _ _ => by kernel_rfl
  have p1 : ∀ u v : Value, (part 3 #[u, v] 1).run Try.prog w = .ok v w := fun _ _ => by kernel_rfl
  have q : ∀ u v : Int, (Op.equalIn 9999 3 (.int .i64 u) (.int .i64 v)).run Try.prog w = .ok (u == v) w := fun u v => run_equalIn_int w 9998 _ .i64 .i64 u v Try.underlying3
  show (Op.equalIn (9999 + 1) _ _ _).run _ w = _
  rw [Op.equalIn.eq_def]
  simp only [Sem.run_bind, run_underlying Try.underlying60, Result.andThen_ok, h0]
  rw [Std.Legacy.Range.forIn_eq_forIn_range']
  simp [List.range', p0, p1, q, Sem.run_bind]
  by_cases h1 : a = c <;> by_cases h2 : b = d <;> simp [h1, h2, p0, p1, q]
@[go_sem ↓ high] theorem eql_arr2 (a b c d : Int) (w : World) : (binOp .eql 60 (.agg #[.int .i64 a, .int .i64 b]) (.agg #[.int .i64 c, .int .i64 d])).run Try.prog w = .ok (.bool (decide ((a, b) = (c, d)))) w := by
  rw [run_eql_struct, eq_arr2]; rfl
@[go_sem ↓ high] theorem neq_arr2 (a b c d : Int) (w : World) : (binOp .neq 60 (.agg #[.int .i64 a, .int .i64 b]) (.agg #[.int .i64 c, .int .i64 d])).run Try.prog w = .ok (.bool (!decide ((a, b) = (c, d)))) w := by
  rw [run_neq_struct, eq_arr2]; rfl

abbrev Pick2 := Pick × Pick
def Stb (Pf : Nat → Pick2 → World → Prop) : Prop := ∀ i x (w w' : World), Below w.heap.size w w' → Pf i x w → Pf i x w'
structure Kp (Pf : Nat → Pick2 → World → Prop) (W : World) (g : Nat → Option Pick2) (w' : World) : Prop where
  bel : Below W.heap.size W w'
  has : ∀ i x, g i = some x → Pf i x w'
section
variable {Pf : Nat → Pick2 → World → Prop} {W w' w'' : World} {g : Nat → Option Pick2} {f : Nat → Bool}
theorem Kp.start : Kp Pf W (fun _ => none) (W.drewN 1) := ⟨below_drewN (Below.refl _ _) 1, fun _ _ h => nomatch h⟩
theorem Kp.call (h : Kp Pf W g w') (hs : Stb Pf) (hb : Below w'.heap.size w' w'') : Kp Pf W g w'' := ⟨step_below hb h.bel, fun i x hx => hs i x _ _ hb (h.has i x hx)⟩
theorem Kp.choose (h : Kp Pf W g w') (hs : Stb Pf) (hb : Below w'.heap.size w' w'') (i : Nat) (x : Pick2) (hx : Pf i x w'') : Kp Pf W (Fx.upd g i x) w'' := ⟨step_below hb h.bel, fun j y hy => by
  by_cases e : j = i
  · subst e
    rw [Fx.upd_same] at hy
    cases hy
    exact hx
  · rw [upd_ne e] at hy
    exact hs j y _ _ hb (h.has j y hy)⟩
/-- The same, with a block of two cells that operation c makes and operation s stores into. -/
structure KpS (Pf : Nat → Pick2 → World → Prop) (T : TypeId) (v0 v1 : Value) (c s : Nat) (W : World) (g : Nat → Option Pick2) (f : Nat → Bool) (w' : World) : Prop where
  bel : Below W.heap.size W w'
  has : f s = false → ∀ i x, g i = some x → i ≠ c → Pf i x w'
  made : ∀ x, g c = some x → ∃ b, x.1.1 = some ⟨b, 0, none⟩ ∧ W.heap.size ≤ b ∧ ∃ e0 e1, Blk w' b T #[e0, e1] ∧ (f s = true → e0 = v0 ∧ e1 = v1)
variable {T : TypeId} {v0 v1 : Value} {c s k : Nat}
theorem KpS.start : KpS Pf T v0 v1 c s W (fun _ => none) f (W.drewN 1) := ⟨below_drewN (Below.refl _ _) 1, fun _ _ _ h => (nomatch h), fun _ h => (nomatch h)⟩
theorem KpS.same (h : KpS Pf T v0 v1 c s W g f w') (hk : k ≠ s) : KpS Pf T v0 v1 c s W g (Fx.add f k) w' := ⟨h.bel, fun hf => h.has (by rwa [add_ne' hk] at hf), fun x hx => by
  obtain ⟨b, h0, h1, e0, e1, h2, h3⟩ := h.made x hx
  exact ⟨b, h0, h1, e0, e1, h2, fun hf => h3 (by rwa [add_ne' hk] at hf)⟩⟩
theorem KpS.call (h : KpS Pf T v0 v1 c s W g f w') (hs : Stb Pf) (hk : k ≠ s) (hb : Below w'.heap.size w' w'') : KpS Pf T v0 v1 c s W g (Fx.add f k) w'' := ⟨step_below hb h.bel, fun hf i x hx hi => hs i x _ _ hb (h.has (by rwa [add_ne' hk] at hf) i x hx hi), fun x hx => by
  obtain ⟨b, h0, h1, e0, e1, h2, h3⟩ := h.made x hx
  exact ⟨b, h0, h1, e0, e1, h2.below hb h2.lt, fun hf => h3 (by rwa [add_ne' hk] at hf)⟩⟩
theorem KpS.choose (h : KpS Pf T v0 v1 c s W g f w') (hs : Stb Pf) (hb : Below w'.heap.size w' w'') (i : Nat) (x : Pick2) (hi : i ≠ s) (hc : i ≠ c) (hx : Pf i x w'') : KpS Pf T v0 v1 c s W (Fx.upd g i x) (Fx.add f i) w'' := ⟨step_below hb h.bel, fun hf j y hy hj => by
  by_cases e : j = i
  · subst e
    rw [Fx.upd_same] at hy
    cases hy
    exact hx
  · rw [upd_ne e] at hy
    exact hs j y _ _ hb (h.has (by rwa [add_ne' hi] at hf) j y hy hj), fun y hy => by
  rw [upd_ne hc.symm] at hy
  obtain ⟨b, h0, h1, e0, e1, h2, h3⟩ := h.made y hy
  exact ⟨b, h0, h1, e0, e1, h2.below hb h2.lt, fun hf => h3 (by rwa [add_ne' hi] at hf)⟩⟩
theorem KpS.make {a b : Value} (h : KpS Pf T v0 v1 c s W g f w') (hs : Stb Pf) (hf : f s = false) (hc : c ≠ s) : KpS Pf T v0 v1 c s W (Fx.upd g c ((some ⟨w'.heap.size, 0, none⟩, 0), (none, 0))) (Fx.add f c) (w'.alloc (.cells #[a, b] T)) := ⟨h.bel.alloc h.bel.size _, fun _ j y hy hj => by
  rw [upd_ne hj] at hy
  exact hs j y _ _ ((Below.refl _ _).alloc (Nat.le_refl _) _) (h.has hf j y hy hj), fun y hy => by
  rw [Fx.upd_same] at hy
  cases hy
  refine ⟨w'.heap.size, rfl, h.bel.size, a, b, Blk.new _ _ _, fun e => ?_⟩
  rw [add_ne' hc, hf] at e
  cases e⟩
theorem KpS.cells {x : Pick2} (h : KpS Pf T v0 v1 c s W g f w') (hx : g c = some x) : ∃ b e0 e1, x.1.1 = some ⟨b, 0, none⟩ ∧ W.heap.size ≤ b ∧ w'.cell? ⟨b, 0, none⟩ = some e0 ∧ w'.cell? ⟨b, 1, none⟩ = some e1 ∧ w'.frozen? ⟨b, 0, none⟩ = false ∧ w'.frozen? ⟨b, 1, none⟩ = false := by
  obtain ⟨b, h0, h1, e0, e1, h2, -⟩ := h.made x hx
  exact ⟨b, e0, e1, h0, h1, h2.cell 0, h2.cell 1, h2.frozen 0, h2.frozen 1⟩
theorem KpS.store {x : Pick2} {b : Nat} (h : KpS Pf T v0 v1 c s W g f w') (hx : g c = some x) (hb : x.1.1 = some ⟨b, 0, none⟩) : KpS Pf T v0 v1 c s W g (Fx.add f s) ((w'.setCell ⟨b, 0, none⟩ v0).setCell ⟨b, 1, none⟩ v1) := by
  obtain ⟨b', h0, h1, e0, e1, h2, -⟩ := h.made x hx
  rw [hb] at h0
  cases h0
  refine ⟨below_store h.bel h1, fun hf => (by rw [add_same] at hf; cases hf), fun y hy => ?_⟩
  rw [hx] at hy
  cases hy
  refine ⟨b, hb, h1, v0, v1, ?_, fun _ => ⟨rfl, rfl⟩⟩
  have := (h2.set_ 0 v0).set_ 1 v1
  simpa using this
theorem KpS.end_ {x : Pick2} (h : KpS Pf T v0 v1 c s W g f w') (hx : g c = some x) (hf : f s = true) : ∃ b, x.1.1 = some ⟨b, 0, none⟩ ∧ W.heap.size ≤ b ∧ Blk w' b T #[v0, v1] := by
  obtain ⟨b, h0, h1, e0, e1, h2, h3⟩ := h.made x hx
  obtain ⟨rfl, rfl⟩ := h3 hf
  exact ⟨b, h0, h1, h2⟩
end

theorem mnt_lay {m : Mnt} {W W1 : World} (hb : Below W.heap.size W W1) {wa : World} (ha : Below wa.heap.size wa W) (h : MntAt m wa) : MntAt m W1 := (h.lay ha).lay hb
/-- What is known of copies: of a mounting (operation ci), of targets (operation ti), of numbers (operation ki). -/
def PfT (m : Mnt) (n : Nat) (l : List Tgt) (q : Nat) (ks : List Int) (ci ti ki : Nat) (i : Nat) (x : Pick2) (w : World) : Prop :=
  (i = ci → MntAt (m.to x.1.1 x.1.2 x.2.1 x.2.2) w) ∧ (i = ti → Reads w w.heap.size 6 x.1.1 n (tgtCells l) ∧ (n ≤ x.1.2 ∧ x.1.2 ≤ 9223372036854775807)) ∧ (i = ki → Reads w w.heap.size 1 x.1.1 q (ks.map (.int .i64)) ∧ (q ≤ x.1.2 ∧ x.1.2 ≤ 9223372036854775807))
theorem PfT.stb {m : Mnt} {n : Nat} {l : List Tgt} {q : Nat} {ks : List Int} {ci ti ki : Nat} : Stb (PfT m n l q ks ci ti ki) := fun _ _ _ _ hb h =>
  ⟨fun e => (h.1 e).lay hb, fun e => ⟨((h.2.1 e).1.below hb).more hb.size, (h.2.1 e).2⟩, fun e => ⟨((h.2.2 e).1.below hb).more hb.size, (h.2.2 e).2⟩⟩
def valT (m : Mnt) (n q ci ti : Nat) (i : Nat) (x : Pick2) : Value := if i = ci then (m.to x.1.1 x.1.2 x.2.1 x.2.2).val else if i = ti then .slice x.1.1 n x.1.2 else .slice x.1.1 q x.1.2
/-- What is known of a copy of a mounting (operation ci) and of a list of numbers (operation ki). -/
def PfQ (m : Mnt) (q : Nat) (ks : List Int) (ci ki : Nat) (i : Nat) (x : Pick2) (w : World) : Prop :=
  (i = ci → MntAt (m.to x.1.1 x.1.2 x.2.1 x.2.2) w) ∧ (i = ki → Reads w w.heap.size 1 x.1.1 q (ks.map (.int .i64)))
theorem PfQ.stb {m : Mnt} {q : Nat} {ks : List Int} {ci ki : Nat} : Stb (PfQ m q ks ci ki) := fun _ _ _ _ hb h =>
  ⟨fun e => (h.1 e).lay hb, fun e => ((h.2 e).below hb).more hb.size⟩
end Go.Proofs.Ytdidcpealabaiaa

end

section
/- The contract of the reference's check of a tour. -/
namespace Go.Proofs.Ytdidcpealabaiaa
open Go Go.RowKit

end Go.Proofs.Ytdidcpealabaiaa

end

section
/- Contracts of what the statements on tours begin with: the guard, and the check of a tour. -/
namespace Go.Proofs.Ytdidcpealabaiaa
open Go Go.RowKit

def nameB30 (l : List Tgt) : Bool := l.all fun t => decide (t.name.size ≤ 30)
def fewT (n : Nat) : Bool := decide (n ≤ 5) || (decide (20 < n) && decide (n ≤ 23))
def shortB (m : Mnt) (l : List Tgt) : Bool := nameB30 l && (lightB m && fewT l.length)
theorem short_parts {m : Mnt} {l : List Tgt} (h : shortB m l = true) : (∀ t ∈ l, t.name.size ≤ 30) ∧ m.n1 ≤ 43 ∧ m.n2 ≤ 43 ∧ l.length ≤ 23 := by
  unfold shortB nameB30 lightB fewT at h
  simp only [Bool.and_eq_true, List.all_eq_true, decide_eq_true_eq, Bool.or_eq_true] at h
  obtain ⟨h1, ⟨h2, h3⟩, h4⟩ := h
  exact ⟨h1, rowsB_le h2, rowsB_le h3, by omega⟩
/-- A tour, as an argument: mounting, targets, day and position. -/
def tourV (m : Mnt) (A : Option Addr) (n c : Nat) (day pos : Int) : Value := .agg #[.int .i64 m.ls, .int .i64 m.ms, .int .i64 m.lo, .int .i64 m.hi, .int .i64 m.sp, .slice m.A1 m.n1 m.c1, .slice m.A2 m.n2 m.c2, .slice A n c, .int .i64 day, .int .i64 pos]
theorem shortB_no {m : Mnt} {l : List Tgt} {k : Nat} {u : Tgt} (hu : l[k]? = some u) (h : 30 < u.name.size) : shortB m l = false := by
  have : nameB30 l = false := by
    cases hb : nameB30 l
    · rfl
    · have := List.all_eq_true.1 hb u (List.mem_of_getElem? hu)
      simp at this
      omega
  unfold shortB; rw [this]; rfl
set_option maxRecDepth 100000 in
set_option maxHeartbeats 1000000 in
theorem shortp_is (m : Mnt) (A : Option Addr) (n c N : Nat) (l : List Tgt) (day pos : Int) (t : Bool) (h : shortB m l = t) (w : World) (hx : Reads w N 6 A n (tgtCells l)) (hN : N ≤ w.heap.size) (hn : n ≤ 9223372036854775807) :
    Calls Try.prog 29 #[tourV m A n c day pos] w fun e w' => e = .returned (.bool t) ∧ Below w.heap.size w w' := by
  have hl := hx.tlen
  have HX := Lib.hid hx
  have HL := Lib.hid hl
  have HS := Lib.hid h
  clear hx hl h
  unfold tourV
  go_enter Try.func29, Try.ntmps29
  go_wp2_with fail
  generalize hwn : (w.alloc (.cells #[.int .i64 (m.ls), .int .i64 (m.ms), .int .i64 (m.lo), .int .i64 (m.hi), .int .i64 (m.sp), .slice m.A1 m.n1 m.c1, .slice m.A2 m.n2 m.c2, .slice A n c, .int .i64 (day), .int .i64 (pos)] 62)) = w1
  have hbn : Below w.heap.size w w1 := by rw [← hwn]; repeat' (first | exact Below.refl _ _ | refine below_drewN ?_ _ | refine Below.drew ?_ | refine Below.alloc ?_ (by first | omega | (simp; done) | (simp; omega) | (simp [World.setCell]; omega)) _ | refine Below.setCell ?_ (by first | omega | (simp; done) | (simp; omega)) _)
  have HB1 := Lib.hid (show Below w.heap.size w w1 from hbn)
  have K0_1 := Lib.hid (show Blk w1 (w.heap.size) 62 #[.int .i64 (m.ls), .int .i64 (m.ms), .int .i64 (m.lo), .int .i64 (m.hi), .int .i64 (m.sp), .slice m.A1 m.n1 m.c1, .slice m.A2 m.n2 m.c2, .slice A n c, .int .i64 (day), .int .i64 (pos)] by rw [← hwn]; repeat' (first | exact Blk.at_ _ (by first | rfl | (simp; done) | (simp; omega)) _ _ | refine Blk.drewN ?_ _ | refine Blk.drew ?_ | refine Blk.alloc ?_ _ | refine Blk.far ?_ (by first | omega | (simp; done) | (simp; omega)) _ | assumption))
  have HN1 := Lib.hid hbn
  have hz1 := hbn.size
  clear hwn hbn
  have l0_1 : w.heap.size < w1.heap.size := K0_1.out.lt
  have z0_0_1 : w1.cell? ⟨w.heap.size, 0, none⟩ = some (.int .i64 (m.ls)) := K0_1.out.cell 0
  have z0_1_1 : w1.cell? ⟨w.heap.size, 1, none⟩ = some (.int .i64 (m.ms)) := K0_1.out.cell 1
  have z0_2_1 : w1.cell? ⟨w.heap.size, 2, none⟩ = some (.int .i64 (m.lo)) := K0_1.out.cell 2
  have z0_3_1 : w1.cell? ⟨w.heap.size, 3, none⟩ = some (.int .i64 (m.hi)) := K0_1.out.cell 3
  have z0_4_1 : w1.cell? ⟨w.heap.size, 4, none⟩ = some (.int .i64 (m.sp)) := K0_1.out.cell 4
  have z0_5_1 : w1.cell? ⟨w.heap.size, 5, none⟩ = some (.slice m.A1 m.n1 m.c1) := K0_1.out.cell 5
  have z0_6_1 : w1.cell? ⟨w.heap.size, 6, none⟩ = some (.slice m.A2 m.n2 m.c2) := K0_1.out.cell 6
  have z0_7_1 : w1.cell? ⟨w.heap.size, 7, none⟩ = some (.slice A n c) := K0_1.out.cell 7
  have z0_8_1 : w1.cell? ⟨w.heap.size, 8, none⟩ = some (.int .i64 (day)) := K0_1.out.cell 8
  have z0_9_1 : w1.cell? ⟨w.heap.size, 9, none⟩ = some (.int .i64 (pos)) := K0_1.out.cell 9
  go_loopw [3] (fun i wr => ∃ k : Nat, k ≤ n ∧ i = .int .i64 k ∧ wr = w1 ∧ nameB30 (l.take k) = true) (fun i _ => n - (intOf i).toNat)
  case atStart => exact ⟨0, by omega, rfl, rfl, rfl⟩
  case round =>
    obtain ⟨k, hk, rfl, rfl, hpre⟩ := hrel
    have HP := Lib.hid hpre
    clear hpre
    by_cases hlt : k < n
    · obtain ⟨xb, xo, u, rfl, hxb, hu, c0, -⟩ := (HX.out.belowLe HB1.out hN).tgt hlt
      have hkk : (k : Int) < (n : Int) := by omega
      by_cases h30 : 30 < u.name.size
      · have ht : t = false := by rw [← HS.out]; exact shortB_no hu h30
        subst ht
        have h31 : (30 : Int) < (u.name.size : Int) := by omega
        clear hu
        go_wp2
        go_ret
        exact ⟨rfl, HB1.out⟩
      · have h31 : ¬ (30 : Int) < (u.name.size : Int) := by omega
        have HU := Lib.hid hu
        clear hu
        go_wp2
        go_roundw
        case rel =>
          refine ⟨k + 1, by omega, by go_num, trivial, ?_⟩
          have := HP.out
          unfold nameB30 at this ⊢
          rw [List.take_add_one, HU.out, List.all_append, this]
          simp
          omega
        case measure => simp [intOf]; omega
    · obtain rfl : n = k := by omega
      have hnm : nameB30 l = true := by have := HP.out; rwa [List.take_of_length_le (by rw [HL.out]; exact Nat.le_refl _)] at this
      have ht : (lightB m && fewT n) = t := by rw [← HS.out]; unfold shortB; rw [hnm, HL.out]; rfl
      cases hl : lightB m
      · have ht' : t = false := by rw [← ht, hl]; rfl
        subst ht'
        have H := Lib.hid hl
        clear hl ht hnm
        go_wp2_with fail
        refine (light_is m false H.out _).mono ?_
        rintro e w2 ⟨rfl, hb⟩
        have HB2 := Lib.hid (show Below w.heap.size w w2 from step_below hb (by repeat' (first | exact Below.refl _ _ | exact HB1.out | refine below_drewN ?_ _ | refine Below.drew ?_ | refine Below.alloc ?_ (by first | omega | (simp; done) | (simp; omega) | (simp [World.setCell]; omega)) _ | refine Below.setCell ?_ (by first | omega | (simp; done) | (simp; omega)) _ | assumption)))
        have K0_2 := Lib.hid (step_blk hb (show Blk _ (w.heap.size) 62 #[.int .i64 (m.ls), .int .i64 (m.ms), .int .i64 (m.lo), .int .i64 (m.hi), .int .i64 (m.sp), .slice m.A1 m.n1 m.c1, .slice m.A2 m.n2 m.c2, .slice A n c, .int .i64 (day), .int .i64 (pos)] by repeat' (first | exact K0_1.out | exact Blk.at_ _ (by first | rfl | (simp; done) | (simp; omega)) _ _ | refine Blk.drewN ?_ _ | refine Blk.drew ?_ | refine Blk.alloc ?_ _ | refine Blk.far ?_ (by first | omega | (simp; done) | (simp; omega)) _ | assumption)))
        have hz2 := hb.size
        try simp only [World.size_alloc, World.drewN, World.drew] at hz2
        clear hb K0_1 z0_0_1 z0_1_1 z0_2_1 z0_3_1 z0_4_1 z0_5_1 z0_6_1 z0_7_1 z0_8_1 z0_9_1 l0_1
        have l0_2 : w.heap.size < w2.heap.size := K0_2.out.lt
        have z0_0_2 : w2.cell? ⟨w.heap.size, 0, none⟩ = some (.int .i64 (m.ls)) := K0_2.out.cell 0
        have z0_1_2 : w2.cell? ⟨w.heap.size, 1, none⟩ = some (.int .i64 (m.ms)) := K0_2.out.cell 1
        have z0_2_2 : w2.cell? ⟨w.heap.size, 2, none⟩ = some (.int .i64 (m.lo)) := K0_2.out.cell 2
        have z0_3_2 : w2.cell? ⟨w.heap.size, 3, none⟩ = some (.int .i64 (m.hi)) := K0_2.out.cell 3
        have z0_4_2 : w2.cell? ⟨w.heap.size, 4, none⟩ = some (.int .i64 (m.sp)) := K0_2.out.cell 4
        have z0_5_2 : w2.cell? ⟨w.heap.size, 5, none⟩ = some (.slice m.A1 m.n1 m.c1) := K0_2.out.cell 5
        have z0_6_2 : w2.cell? ⟨w.heap.size, 6, none⟩ = some (.slice m.A2 m.n2 m.c2) := K0_2.out.cell 6
        have z0_7_2 : w2.cell? ⟨w.heap.size, 7, none⟩ = some (.slice A n c) := K0_2.out.cell 7
        have z0_8_2 : w2.cell? ⟨w.heap.size, 8, none⟩ = some (.int .i64 (day)) := K0_2.out.cell 8
        have z0_9_2 : w2.cell? ⟨w.heap.size, 9, none⟩ = some (.int .i64 (pos)) := K0_2.out.cell 9
        go_wp2
        go_ret
        exact ⟨rfl, by repeat' (first | exact Below.refl _ _ | exact HB2.out | refine below_drewN ?_ _ | refine Below.drew ?_ | refine Below.alloc ?_ (by first | omega | (simp; done) | (simp; omega) | (simp [World.setCell]; omega)) _ | refine Below.setCell ?_ (by first | omega | (simp; done) | (simp; omega)) _ | assumption)⟩
      · have H := Lib.hid hl
        have ht2 : fewT n = t := by rw [← ht, hl]; rfl
        clear ht hnm hl
        go_wp2_with fail
        refine (light_is m true H.out _).mono ?_
        rintro e w2 ⟨rfl, hb⟩
        have HB2 := Lib.hid (show Below w.heap.size w w2 from step_below hb (by repeat' (first | exact Below.refl _ _ | exact HB1.out | refine below_drewN ?_ _ | refine Below.drew ?_ | refine Below.alloc ?_ (by first | omega | (simp; done) | (simp; omega) | (simp [World.setCell]; omega)) _ | refine Below.setCell ?_ (by first | omega | (simp; done) | (simp; omega)) _ | assumption)))
        have K0_2 := Lib.hid (step_blk hb (show Blk _ (w.heap.size) 62 #[.int .i64 (m.ls), .int .i64 (m.ms), .int .i64 (m.lo), .int .i64 (m.hi), .int .i64 (m.sp), .slice m.A1 m.n1 m.c1, .slice m.A2 m.n2 m.c2, .slice A n c, .int .i64 (day), .int .i64 (pos)] by repeat' (first | exact K0_1.out | exact Blk.at_ _ (by first | rfl | (simp; done) | (simp; omega)) _ _ | refine Blk.drewN ?_ _ | refine Blk.drew ?_ | refine Blk.alloc ?_ _ | refine Blk.far ?_ (by first | omega | (simp; done) | (simp; omega)) _ | assumption)))
        have hz2 := hb.size
        try simp only [World.size_alloc, World.drewN, World.drew] at hz2
        clear hb K0_1 z0_0_1 z0_1_1 z0_2_1 z0_3_1 z0_4_1 z0_5_1 z0_6_1 z0_7_1 z0_8_1 z0_9_1 l0_1
        have l0_2 : w.heap.size < w2.heap.size := K0_2.out.lt
        have z0_0_2 : w2.cell? ⟨w.heap.size, 0, none⟩ = some (.int .i64 (m.ls)) := K0_2.out.cell 0
        have z0_1_2 : w2.cell? ⟨w.heap.size, 1, none⟩ = some (.int .i64 (m.ms)) := K0_2.out.cell 1
        have z0_2_2 : w2.cell? ⟨w.heap.size, 2, none⟩ = some (.int .i64 (m.lo)) := K0_2.out.cell 2
        have z0_3_2 : w2.cell? ⟨w.heap.size, 3, none⟩ = some (.int .i64 (m.hi)) := K0_2.out.cell 3
        have z0_4_2 : w2.cell? ⟨w.heap.size, 4, none⟩ = some (.int .i64 (m.sp)) := K0_2.out.cell 4
        have z0_5_2 : w2.cell? ⟨w.heap.size, 5, none⟩ = some (.slice m.A1 m.n1 m.c1) := K0_2.out.cell 5
        have z0_6_2 : w2.cell? ⟨w.heap.size, 6, none⟩ = some (.slice m.A2 m.n2 m.c2) := K0_2.out.cell 6
        have z0_7_2 : w2.cell? ⟨w.heap.size, 7, none⟩ = some (.slice A n c) := K0_2.out.cell 7
        have z0_8_2 : w2.cell? ⟨w.heap.size, 8, none⟩ = some (.int .i64 (day)) := K0_2.out.cell 8
        have z0_9_2 : w2.cell? ⟨w.heap.size, 9, none⟩ = some (.int .i64 (pos)) := K0_2.out.cell 9
        unfold fewT at ht2
        by_cases h5 : n ≤ 5
        · have ht' : t = true := by simpa [h5] using ht2.symm
          subst ht'
          have k1 : (n : Int) ≤ 5 := by omega
          clear ht2 h5
          go_wp2
          go_ret
          exact ⟨rfl, by repeat' (first | exact Below.refl _ _ | exact HB2.out | refine below_drewN ?_ _ | refine Below.drew ?_ | refine Below.alloc ?_ (by first | omega | (simp; done) | (simp; omega) | (simp [World.setCell]; omega)) _ | refine Below.setCell ?_ (by first | omega | (simp; done) | (simp; omega)) _ | assumption)⟩
        have k1 : decide ((n : Int) ≤ 5) = false := decide_eq_false (by omega)
        by_cases h20 : 20 < n
        · have k2 : (20 : Int) < n := by omega
          by_cases h23 : n ≤ 23
          · have ht' : t = true := by simpa [h5, h20, h23] using ht2.symm
            subst ht'
            have k3 : (n : Int) ≤ 23 := by omega
            clear ht2 h5 h20 h23
            go_wp2
            go_ret
            exact ⟨rfl, by repeat' (first | exact Below.refl _ _ | exact HB2.out | refine below_drewN ?_ _ | refine Below.drew ?_ | refine Below.alloc ?_ (by first | omega | (simp; done) | (simp; omega) | (simp [World.setCell]; omega)) _ | refine Below.setCell ?_ (by first | omega | (simp; done) | (simp; omega)) _ | assumption)⟩
          · have ht' : t = false := by simpa [h5, h20, h23] using ht2.symm
            subst ht'
            have k3 : decide ((n : Int) ≤ 23) = false := decide_eq_false (by omega)
            clear ht2 h5 h20 h23
            go_wp2
            go_ret
            exact ⟨rfl, by repeat' (first | exact Below.refl _ _ | exact HB2.out | refine below_drewN ?_ _ | refine Below.drew ?_ | refine Below.alloc ?_ (by first | omega | (simp; done) | (simp; omega) | (simp [World.setCell]; omega)) _ | refine Below.setCell ?_ (by first | omega | (simp; done) | (simp; omega)) _ | assumption)⟩
        · have ht' : t = false := by simpa [h5, h20] using ht2.symm
          subst ht'
          have k2 : decide ((20 : Int) < (n : Int)) = false := decide_eq_false (by omega)
          clear ht2 h5 h20
          go_wp2
          go_ret
          exact ⟨rfl, by repeat' (first | exact Below.refl _ _ | exact HB2.out | refine below_drewN ?_ _ | refine Below.drew ?_ | refine Below.alloc ?_ (by first | omega | (simp; done) | (simp; omega) | (simp [World.setCell]; omega)) _ | refine Below.setCell ?_ (by first | omega | (simp; done) | (simp; omega)) _ | assumption)⟩
end Go.Proofs.Ytdidcpealabaiaa

end

section
/- Arguments of the statements on pointing that are tours. -/
namespace Go.Proofs.Ytdidcpealabaiaa
open Go Go.RowKit Go.ChangeShapes Go.WideShapes Go.ChangeAt Go.Joins Go.Deep

theorem tgts_of : ∀ (n : Nat) (us : List Value), us.length = n * 6 → (∀ q u, us[q]? = some u → KindIs ([true, false, false, false, false, false].getD (q % 6) false) u) → ∃ l : List Tgt, l.length = n ∧ tgtCells l = us ∧ ∀ t ∈ l, t.name.size ≤ maxLen
  | 0, us, h, _ => by
    obtain rfl : us = [] := List.length_eq_zero_iff.1 (by simpa using h)
    exact ⟨[], rfl, rfl, by simp⟩
  | n + 1, us, h, hk => by
    match us, h, hk with
    | x0 :: x1 :: x2 :: x3 :: x4 :: x5 :: t, h, hk =>
      obtain ⟨l, h1, h2, h3⟩ := tgts_of n t (by simp at h; omega) fun q u hu => by
        have := hk (q + 6) u (by simpa using hu)
        rwa [Nat.add_mod_right] at this
      obtain ⟨s0, rfl, f0⟩ : ∃ s : ByteArray, x0 = .string s ∧ s.size ≤ maxLen := hk 0 x0 rfl
      obtain ⟨z1, rfl, -⟩ : ∃ z, x1 = .int .i64 z ∧ I64 z := hk 1 x1 rfl
      obtain ⟨z2, rfl, -⟩ : ∃ z, x2 = .int .i64 z ∧ I64 z := hk 2 x2 rfl
      obtain ⟨z3, rfl, -⟩ : ∃ z, x3 = .int .i64 z ∧ I64 z := hk 3 x3 rfl
      obtain ⟨z4, rfl, -⟩ : ∃ z, x4 = .int .i64 z ∧ I64 z := hk 4 x4 rfl
      obtain ⟨z5, rfl, -⟩ : ∃ z, x5 = .int .i64 z ∧ I64 z := hk 5 x5 rfl
      refine ⟨⟨s0, z1, z2, z3, z4, z5⟩ :: l, by simp [h1], ?_, fun r hr => ?_⟩
      · show _ ++ tgtCells l = _
        rw [h2]
        rfl
      · rcases List.mem_cons.1 hr with rfl | hr
        · exact f0
        · exact h3 r hr
    | [], h, _ => simp at h
    | [_], h, _ => simp at h; omega
    | [_, _], h, _ => simp at h; omega
    | [_, _, _], h, _ => simp at h; omega
    | [_, _, _, _], h, _ => simp at h; omega
    | [_, _, _, _, _], h, _ => simp at h; omega

section
variable {H : Type} {enc : TypeId × Value → H} {P : Program} {w : World} {base b0 : Nat} {spare : Nat → Bool} {held : Bool} {r : Reach} {t e tI tS tR tL tA tM tN tX : TypeId} {v : Value} {d : DataW H} {p : List MemPlace} {fs gs ns fX : Array Field} {fuel : Nat} {cs : List Value} {x : DataW H × List MemPlace}
theorem open_tgts (hL : P.underlying tL = some (.slice tN)) (hN : P.underlying tN = some (.struct ns)) (hone : oneCellFields P ns = true) (hC : P.cellsOf tN = ns.size) (hf : ns.toList.map (·.type) = [tS, tI, tI, tI, tI, tI]) (hk : ns.size = 6) (hI : P.underlying tI = some (.int .i64)) (hS : P.underlying tS = some .string)
    (h : DataW.trod enc P w base spare held fuel tL cs = some x) : ∃ (A : Option Addr) (n c : Nat) (l : List Tgt), cs = [.slice A n c] ∧ (n ≤ c ∧ c ≤ 9223372036854775807) ∧ l.length = n ∧ (∀ t ∈ l, t.name.size ≤ maxLen) ∧ Reads w w.heap.size 6 A n (tgtCells l) := by
  obtain ⟨A, n, c, us, h1, h2, h3, h4, h5⟩ := open_slice_cells hL hN hone hC (by omega) h
  rw [hk] at h3 h4 h5
  obtain ⟨l, l1, l2, l3⟩ := tgts_of n us h3 fun q u hu => by
    obtain ⟨y, m, f, hfq, ht'⟩ := h5 q u hu
    have hq : q % 6 < 6 := Nat.mod_lt _ (by omega)
    have e1 : (ns.toList.map (·.type))[q % 6]? = some f.type := by rw [List.getElem?_map, Array.getElem?_toList, hfq]; rfl
    rw [hf] at e1
    obtain ⟨j, hj⟩ : ∃ j, q % 6 = j := ⟨_, rfl⟩
    rw [hj] at e1 hq ⊢
    rcases (show j = 0 ∨ j = 1 ∨ j = 2 ∨ j = 3 ∨ j = 4 ∨ j = 5 by omega) with rfl | rfl | rfl | rfl | rfl | rfl
    · have e2 : tS = f.type := by simpa using e1
      rw [← e2] at ht'
      exact cell_str hS ht'
    all_goals
      have e2 : tI = f.type := by simpa using e1
      rw [← e2] at ht'
      exact cell_int hI ht'
  exact ⟨A, n, c, l, h1, h2, l1, l3, l2 ▸ h4⟩

structure TourIn (m : Mnt) (A : Option Addr) (n c : Nat) (l : List Tgt) (day pos : Int) (w : World) : Prop where
  mnt : MntIn m w
  hn : n ≤ c ∧ c ≤ 9223372036854775807
  len : l.length = n
  fit : ∀ t ∈ l, t.name.size ≤ maxLen
  rd : Reads w w.heap.size 6 A n (tgtCells l)
  d : I64 day
  p : I64 pos
theorem arg_tour (hX : P.underlying tX = some (.struct fX)) (hfX : fX.toList.map (fun f => (f.type, f.offset)) = [(tM, 0), (tL, 7), (tA, 8)]) (hCX : P.cellsOf tX = 10)
    (he : P.underlying tM = some (.struct fs)) (hone : oneCellFields P fs = true) (hC : P.cellsOf tM = fs.size) (hf : fs.toList.map (·.type) = [tI, tI, tI, tI, tI, tR, tR]) (hI : P.underlying tI = some (.int .i64))
    (ht : P.underlying tR = some (.slice e)) (hg : P.underlying e = some (.struct gs)) (hone' : oneCellFields P gs = true) (hC' : P.cellsOf e = gs.size) (hf' : gs.toList.all (fun f => f.type == tI) = true) (hk : gs.size = 2)
    (hL : P.underlying tL = some (.slice tN)) (hN : P.underlying tN = some (.struct ns)) (hnone : oneCellFields P ns = true) (hnC : P.cellsOf tN = ns.size) (hnf : ns.toList.map (·.type) = [tS, tI, tI, tI, tI, tI]) (hnk : ns.size = 6) (hS : P.underlying tS = some .string)
    (hA : P.underlying tA = some (.array 2 tI)) (hcI : P.cellsOf tI = 1) (hcL : P.cellsOf tL = 1) (hcA : P.cellsOf tA = 2)
    (hv : Value.okWide P w r b0 tX v) (h : DataW.Trod enc P w base spare held tX v d p) : ∃ (m : Mnt) (A : Option Addr) (n c : Nat) (l : List Tgt) (day pos : Int), v = tourV m A n c day pos ∧ TourIn m A n c l day pos w := by
  obtain ⟨fuel, hh⟩ := h
  obtain ⟨⟨cs⟩, rfl, hsz⟩ := okWide_struct hX hv
  obtain ⟨xs, n', -, -, hlen, hxl, hat⟩ := DataW.trod_struct hX hh
  rw [hCX] at hlen
  have hcs : (Value.agg ⟨cs⟩).cells.toList = cs := by simp [Value.cells]
  rw [hcs] at hlen hat
  have hfsz : fX.size = 3 := by have := congrArg List.length hfX; simpa using this
  rw [hfsz] at hxl
  have hM7 : P.cellsOf tM = 7 := by have := congrArg List.length hf; rw [hC]; simpa using this
  have key : ∀ (j : Nat) (t : TypeId) (o : Nat), [(tM, 0), (tL, 7), (tA, 8)][j]? = some (t, o) → ∃ y, DataW.trod enc P w base spare held n' t ((cs.drop o).take (P.cellsOf t)) = some y := by
    intro j t o hj
    rw [← hfX, List.getElem?_map, Array.getElem?_toList] at hj
    cases hfj : fX[j]? with
    | none => rw [hfj] at hj; cases hj
    | some f =>
      rw [hfj] at hj
      have e2 : (f.type, f.offset) = (t, o) := Option.some.inj hj
      obtain ⟨rfl, rfl⟩ : f.type = t ∧ f.offset = o := by simpa using e2
      have hj3 : j < 3 := by rw [← hfsz]; exact (Array.getElem?_eq_some_iff.1 hfj).1
      exact ⟨_, (hat j f hfj).trans (List.getElem?_eq_getElem (by omega))⟩
  obtain ⟨y0, k0⟩ := key 0 tM 0 rfl
  obtain ⟨y1, k1⟩ := key 1 tL 7 rfl
  obtain ⟨y2, k2⟩ := key 2 tA 8 rfl
  rw [hM7] at k0
  rw [hcL] at k1
  rw [hcA] at k2
  obtain ⟨m, m1, m2⟩ := open_mnt he hone hC hf hI ht hg hone' hC' hf' hk k0
  obtain ⟨A, n, c, l, l1, l2, l3, l4, l5⟩ := open_tgts hL hN hnone hnC hnf hnk hI hS k1
  obtain ⟨zs, q, -, -, -, hzl, hel⟩ := DataW.trod_array hA k2
  have e0 := hel 0 (by omega)
  have e1 := hel 1 (by omega)
  rw [hcI, List.getElem?_eq_getElem (by omega)] at e0 e1
  match cs, hlen with
  | [d0, d1, d2, d3, d4, d5, d6, d7, d8, d9], _ =>
    obtain ⟨a, u0, -, wa⟩ := DataW.trod_int hI e0
    obtain ⟨b, u1, -, wb⟩ := DataW.trod_int hI e1
    simp at u0 u1 m1 l1
    obtain ⟨rfl, rfl, rfl, rfl, rfl, rfl, rfl⟩ := m1
    subst u0 u1 l1
    exact ⟨m, A, n, c, l, a, b, rfl, m2, l2, l3, l4, l5, I64.of_wf wa, I64.of_wf wb⟩
end
end Go.Proofs.Ytdidcpealabaiaa

end
