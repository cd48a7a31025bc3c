import Derived.Test.YtoiconebcmneiabQ10
import Derived.Test.YtoiconebcmneiabQ1
import Derived.Test.YtoiconebcmneiabQ6
import Derived.Test.YtoiconebcmneiabQ7

section
/- The class of worlds of a region whose order is left open and which makes a struct of two cells and stores into it. -/
namespace Go.Proofs.Ytoiconebcmneiab
open Go.RowKit

/-- All that was there is as it was; the new block x, once it is made, holds two cells: v0 and v1 when operation s (the store) has come. -/
def MkD (T : TypeId) (v0 v1 : Value) (s : Nat) (W : World) (g : Option Nat) (f : Nat → Bool) (w' : World) : Prop :=
  Below W.heap.size W w' ∧ ∀ x, g = some x → W.heap.size ≤ x ∧ ∃ e0 e1, Blk w' x T #[e0, e1] ∧ (f s = true → e0 = v0 ∧ e1 = v1)

section
variable {T : TypeId} {v0 v1 : Value} {s : Nat} {W w' w'' : World} {g : Option Nat} {f : Nat → Bool} {x k : Nat}
theorem add_ne (hk : k ≠ s) : Fx.add f k s = f s := by
  unfold Fx.add
  cases h : s.beq k with
  | false => simp
  | true => exact absurd (Nat.eq_of_beq_eq_true h).symm hk
theorem MkD.start (h : Below W.heap.size W w') : MkD T v0 v1 s W none f w' := ⟨h, fun x h => by cases h⟩
theorem MkD.step (h : MkD T v0 v1 s W g f w') (hb : Below w'.heap.size w' w'') (hk : k ≠ s) : MkD T v0 v1 s W g (Fx.add f k) w'' := by
  refine ⟨h.1.trans (hb.mono h.1.size), fun x hx => ?_⟩
  obtain ⟨h1, e0, e1, h2, h3⟩ := h.2 x hx
  exact ⟨h1, e0, e1, h2.below hb h2.lt, fun h => h3 (by rwa [add_ne hk] at h)⟩
theorem MkD.make {a b : Value} (h : MkD T v0 v1 s W none f w') (hs : f s = false) (hk : k ≠ s) : MkD T v0 v1 s W (some w'.heap.size) (Fx.add f k) (w'.alloc (.cells #[a, b] T)) := by
  refine ⟨h.1.alloc h.1.size _, fun x hx => ?_⟩
  cases hx
  refine ⟨h.1.size, a, b, Blk.new _ _ _, fun h => ?_⟩
  rw [add_ne hk, hs] at h
  cases h
theorem MkD.store (h : MkD T v0 v1 s W (some x) f w') : MkD T v0 v1 s W (some x) (Fx.add f s) ((w'.setCell ⟨x, 0, none⟩ v0).setCell ⟨x, 1, none⟩ v1) := by
  obtain ⟨h1, e0, e1, h2, -⟩ := h.2 x rfl
  refine ⟨(h.1.setCell (p := ⟨x, 0, none⟩) h1 _).setCell (p := ⟨x, 1, none⟩) h1 _, fun y hy => ?_⟩
  cases hy
  refine ⟨h1, v0, v1, ?_, fun _ => ⟨rfl, rfl⟩⟩
  have := (h2.set_ 0 v0).set_ 1 v1
  simpa using this
theorem MkD.cells (h : MkD T v0 v1 s W (some x) f w') : ∃ e0 e1, w'.cell? ⟨x, 0, none⟩ = some e0 ∧ w'.cell? ⟨x, 1, none⟩ = some e1 ∧ w'.frozen? ⟨x, 0, none⟩ = false ∧ w'.frozen? ⟨x, 1, none⟩ = false := by
  obtain ⟨h1, e0, e1, h2, -⟩ := h.2 x rfl
  exact ⟨e0, e1, h2.cell 0, h2.cell 1, h2.frozen 0, h2.frozen 1⟩
end

/-- A block g of two cells is stored into, each cell once (operations s0, s1); all below g is as it was. -/
def UpD (T : TypeId) (g : Nat) (r0 r1 m0 m1 : Value) (s0 s1 : Nat) (W : World) (f : Nat → Bool) (w' : World) : Prop :=
  Below g W w' ∧ ∃ e0 e1, Blk w' g T #[e0, e1] ∧ (f s0 = false → e0 = r0) ∧ (f s0 = true → e0 = m0) ∧ (f s1 = false → e1 = r1) ∧ (f s1 = true → e1 = m1)
section
variable {T : TypeId} {g : Nat} {r0 r1 m0 m1 : Value} {s0 s1 k : Nat} {W w' w'' : World} {f : Nat → Bool}
theorem add_eq : Fx.add f k k = true := by
  unfold Fx.add
  rw [show Nat.beq k k = true from Nat.beq_refl k]
  rfl
theorem UpD.start (h : Below g W w') (hg : Blk w' g T #[r0, r1]) (h0 : f s0 = false) (h1 : f s1 = false) : UpD T g r0 r1 m0 m1 s0 s1 W f w' :=
  ⟨h, r0, r1, hg, fun _ => rfl, fun e => (by rw [h0] at e; cases e), fun _ => rfl, fun e => (by rw [h1] at e; cases e)⟩
theorem UpD.same (h : UpD T g r0 r1 m0 m1 s0 s1 W f w') (k0 : k ≠ s0) (k1 : k ≠ s1) : UpD T g r0 r1 m0 m1 s0 s1 W (Fx.add f k) w' := by
  obtain ⟨h1, e0, e1, h2, a, b, c, d⟩ := h
  refine ⟨h1, e0, e1, h2, ?_, ?_, ?_, ?_⟩
  · rw [add_ne k0]; exact a
  · rw [add_ne k0]; exact b
  · rw [add_ne k1]; exact c
  · rw [add_ne k1]; exact d
theorem UpD.store0 (h : UpD T g r0 r1 m0 m1 s0 s1 W f w') (hne : s0 ≠ s1) : UpD T g r0 r1 m0 m1 s0 s1 W (Fx.add f s0) (w'.setCell ⟨g, 0, none⟩ m0) := by
  obtain ⟨h1, e0, e1, h2, a, b, c, d⟩ := h
  refine ⟨h1.setCell (p := ⟨g, 0, none⟩) (Nat.le_refl _) _, m0, e1, by simpa using h2.set_ 0 m0, fun e => ?_, fun _ => rfl, ?_, ?_⟩
  · rw [add_eq] at e; cases e
  · rw [add_ne hne]; exact c
  · rw [add_ne hne]; exact d
theorem UpD.store1 (h : UpD T g r0 r1 m0 m1 s0 s1 W f w') (hne : s0 ≠ s1) : UpD T g r0 r1 m0 m1 s0 s1 W (Fx.add f s1) (w'.setCell ⟨g, 1, none⟩ m1) := by
  obtain ⟨h1, e0, e1, h2, a, b, c, d⟩ := h
  refine ⟨h1.setCell (p := ⟨g, 1, none⟩) (Nat.le_refl _) _, e0, m1, by simpa using h2.set_ 1 m1, ?_, ?_, fun e => ?_, fun _ => rfl⟩
  · rw [add_ne (Ne.symm hne)]; exact a
  · rw [add_ne (Ne.symm hne)]; exact b
  · rw [add_eq] at e; cases e
theorem UpD.read0 (h : UpD T g r0 r1 m0 m1 s0 s1 W f w') (h0 : f s0 = false) : w'.cell? ⟨g, 0, none⟩ = some r0 ∧ w'.frozen? ⟨g, 0, none⟩ = false := by
  obtain ⟨h1, e0, e1, h2, a, b, c, d⟩ := h
  exact ⟨a h0 ▸ h2.cell 0, h2.frozen 0⟩
theorem UpD.read1 (h : UpD T g r0 r1 m0 m1 s0 s1 W f w') (h0 : f s1 = false) : w'.cell? ⟨g, 1, none⟩ = some r1 ∧ w'.frozen? ⟨g, 1, none⟩ = false := by
  obtain ⟨h1, e0, e1, h2, a, b, c, d⟩ := h
  exact ⟨c h0 ▸ h2.cell 1, h2.frozen 1⟩
/-- Only cell 1 is stored into. -/
theorem UpD.end1 (h : UpD T g r0 r1 r0 m1 s0 s1 W f w') (h1 : f s1 = true) : Below g W w' ∧ Blk w' g T #[r0, m1] := by
  obtain ⟨h1', e0, e1, h2, a, b, c, d⟩ := h
  have e : e0 = r0 := by
    cases hf : f s0 with
    | false => exact a hf
    | true => exact b hf
  exact ⟨h1', e ▸ d h1 ▸ h2⟩
/-- Only cell 0 is stored into. -/
theorem UpD.end0 (h : UpD T g r0 r1 m0 r1 s0 s1 W f w') (h1 : f s0 = true) : Below g W w' ∧ Blk w' g T #[m0, r1] := by
  obtain ⟨h1', e0, e1, h2, a, b, c, d⟩ := h
  have e : e1 = r1 := by
    cases hf : f s1 with
    | false => exact c hf
    | true => exact d hf
  exact ⟨h1', b h1 ▸ e ▸ h2⟩
theorem UpD.start' (h : Below g W w') (hg : Blk w' g T #[r0, r1]) (h0 : f s0 = false) (h1 : f s1 = false) : UpD T g r0 r1 m0 m1 s0 s1 W f w' := UpD.start h hg h0 h1
theorem UpD.end_ (h : UpD T g r0 r1 m0 m1 s0 s1 W f w') (h0 : f s0 = true) (h1 : f s1 = true) : Below g W w' ∧ Blk w' g T #[m0, m1] := by
  obtain ⟨h1', e0, e1, h2, a, b, c, d⟩ := h
  exact ⟨h1', b h0 ▸ d h1 ▸ h2⟩
end

end Go.Proofs.Ytoiconebcmneiab

end

section
/- The reference's functions on trains of gears: the check, the products, the ratio and the turns. -/
namespace Go.Proofs.Ytoiconebcmneiab
open Go.RowKit

theorem rchecktrain_any (A : Option Addr) (n c N : Nat) (l : List (Int × Int)) (w : World) (hx : Reads w N 2 A n (cells2 l)) (hN : N ≤ w.heap.size) (hn : n ≤ 9223372036854775807) :
    Calls Try.prog 29 #[.slice A n c] w fun e w' => e = .returned (.int .i64 (trainErr l)) ∧ Below w.heap.size w w' := by
  have hxl := Lib.hid hx.len2
  have HX := Lib.hid hx
  clear hx
  by_cases h12 : (12 : Int) < n
  · have HE : Hid (trainErr l = 8) := by show _ = _; unfold trainErr; rw [if_pos (by rw [hxl.out]; omega)]
    go_enter Try.func29, Try.ntmps29
    go_wp2
    go_ret
    exact ⟨ret_int HE.out.symm, Below.refl _ _⟩
  have HE : Hid (trainErr l = if l.all okP then 0 else 2) := by show _ = _; unfold trainErr; rw [if_neg (by rw [hxl.out]; omega)]
  go_enter Try.func29, Try.ntmps29
  go_wp2
  go_loopw [3] (fun i wr => ∃ k : Nat, k ≤ n ∧ i = .int .i64 k ∧ (l.take k).all okP = true ∧ Below w.heap.size w wr) (fun i _ => n - (intOf i).toNat)
  case atStart => exact ⟨0, by omega, rfl, rfl, Below.refl _ _⟩
  case round =>
    obtain ⟨k, hk, rfl, ht, hb⟩ := hrel
    have HT := Lib.hid ht
    have HB := Lib.hid hb
    clear ht hb
    by_cases hlt : k < n
    · obtain ⟨xb, xo, p, rfl, hxb, hp, c0, c1⟩ := (HX.out.belowLe HB.out hN).pair hlt
      have HP := Lib.hid hp
      clear hp
      cases h1 : withinB p.1 1 500 with
      | false =>
        have HO := Lib.hid (okP_no1 h1)
        go_wp2_with (first | (go_at_call 70; refine (isteeth_any _ _ (by assumption) _).mono ?_; rintro e w' ⟨rfl, rfl⟩))
        go_ret
        exact ⟨ret_int (by rw [HE.out, all_no HP.out HO.out]; rfl), HB.out⟩
      | true =>
        cases h2 : withinB p.2 1 500 with
        | false =>
          have HO := Lib.hid (okP_no2 h2)
          go_wp2_with (first | (go_at_call 70; refine (isteeth_any _ _ (by assumption) _).mono ?_; rintro e w' ⟨rfl, rfl⟩))
          go_ret
          exact ⟨ret_int (by rw [HE.out, all_no HP.out HO.out]; rfl), HB.out⟩
        | true =>
          have HO := Lib.hid (okP_yes h1 h2)
          go_wp2_with (first | (go_at_call 70; refine (isteeth_any _ _ (by assumption) _).mono ?_; rintro e w' ⟨rfl, rfl⟩))
          go_roundw
          case rel => exact ⟨k + 1, by omega, by go_num, all_take_succ HT.out HP.out HO.out, HB.out⟩
          case measure => simp [intOf]; omega
    · go_wp2
      go_ret
      have e : l.take k = l := List.take_of_length_le (by rw [hxl.out]; omega)
      exact ⟨ret_int (by rw [HE.out, ← e, HT.out]; rfl), HB.out⟩

theorem rchecktrain_is (A : Option Addr) (n c N : Nat) (l : List (Int × Int)) (t : Int) (h : trainErr l = t) (w : World) (hx : Reads w N 2 A n (cells2 l)) (hN : N ≤ w.heap.size) (hn : n ≤ 9223372036854775807) :
    Calls Try.prog 29 #[.slice A n c] w fun e w' => e = .returned (.int .i64 t) ∧ Below w.heap.size w w' := h ▸ rchecktrain_any A n c N l w hx hN hn

/-- All products from one on, and whether all are small. -/
def begF : Int × Int → List (Int × Int) → List (Int × Int) × Bool
  | f, [] => ([f], true)
  | f, g :: l => if smallB (f.1 * g.1) (f.2 * g.2) then (f :: (begF (redN (f.1 * g.1) (f.2 * g.2), redD (f.1 * g.1) (f.2 * g.2)) l).1, (begF (redN (f.1 * g.1) (f.2 * g.2), redD (f.1 * g.1) (f.2 * g.2)) l).2) else ([f], false)

theorem trainF_beg {σ : Type} (step : σ → Int × Int → σ) : ∀ (l : List (Int × Int)) (s : σ) (f : Int × Int), trainF step (step s f) f l = ((begF f l).1.foldl step s, (begF f l).2)
  | [], s, f => rfl
  | g :: l, s, f => by
    simp only [trainF, begF]
    split
    · rw [trainF_beg step l]; rfl
    · rfl

theorem begF_len : ∀ (l : List (Int × Int)) (f : Int × Int), (begF f l).2 = true → (begF f l).1.length = l.length + 1
  | [], _, _ => rfl
  | g :: l, f, h => by
    simp only [begF] at h ⊢
    split at h
    · rw [if_pos (by assumption)]
      simp only at h ⊢
      rw [List.length_cons, begF_len l _ h]; rfl
    · cases h

theorem begF_part : ∀ (l : List (Int × Int)) (f : Int × Int), l.all okP = true → Part f.1 → Part f.2 → ∀ x ∈ (begF f l).1, Part x.1 ∧ Part x.2
  | [], f, _, h1, h2, x, hx => by simp [begF] at hx; exact hx ▸ ⟨h1, h2⟩
  | g :: l, f, hl, h1, h2, x, hx => by
    simp only [List.all_cons, Bool.and_eq_true] at hl
    obtain ⟨p1, p2, p3, p4⟩ := okP_part hl.1
    simp only [begF] at hx
    split at hx
    · rename_i hs
      have hr := red_part (part_bound h1 p1 p2).1 (part_bound h2 p3 p4).1 hs
      rcases List.mem_cons.1 hx with rfl | hx
      · exact ⟨h1, h2⟩
      · exact begF_part l _ hl.2 hr.1 hr.2 x hx
    · simp at hx; exact hx ▸ ⟨h1, h2⟩

/-- The reference takes the ratio of a pair in lowest terms first. -/
theorem of_scale {f1 f2 d v : Int} (hv : 1 ≤ v) (f : Int × Int) (hf : f = (f1, f2)) :
    smallB (f1 * redN d v) (f2 * redD d v) = smallB (f1 * d) (f2 * v) ∧ redN (f1 * redN d v) (f2 * redD d v) = redN (f1 * d) (f2 * v) ∧ redD (f1 * redN d v) (f2 * redD d v) = redD (f1 * d) (f2 * v) := by
  have hp : 0 < Int.gcd d v := Int.gcd_pos_of_ne_zero_right d (by omega)
  have e1 : (Int.gcd d v : Int) * redN d v = d := Int.mul_ediv_cancel' (Int.gcd_dvd_left d v)
  have e2 : (Int.gcd d v : Int) * redD d v = v := Int.mul_ediv_cancel' (Int.gcd_dvd_right d v)
  have hs := red_scale (k := (Int.gcd d v : Int)) (by omega) (f1 * redN d v) (f2 * redD d v)
  have m1 : (Int.gcd d v : Int) * (f1 * redN d v) = f1 * d := by rw [← Int.mul_assoc, Int.mul_comm _ f1, Int.mul_assoc, e1]
  have m2 : (Int.gcd d v : Int) * (f2 * redD d v) = f2 * v := by rw [← Int.mul_assoc, Int.mul_comm _ f2, Int.mul_assoc, e2]
  rw [m1, m2] at hs
  exact ⟨hs.2.2.symm, hs.1.symm, hs.2.1.symm⟩

theorem red_teeth {d v : Int} (h1 : 1 ≤ d) (h2 : d ≤ 500) (h3 : 1 ≤ v) (h4 : v ≤ 500) : 1 ≤ redN d v ∧ redN d v ≤ 500 ∧ 1 ≤ redD d v ∧ redD d v ≤ 500 := by
  have hp : 0 < Int.gcd d v := Int.gcd_pos_of_ne_zero_right d (by omega)
  have a1 : 0 < redN d v := Int.ediv_pos_of_pos_of_dvd (by omega) (by omega) (Int.gcd_dvd_left d v)
  have a2 : 0 < redD d v := Int.ediv_pos_of_pos_of_dvd (by omega) (by omega) (Int.gcd_dvd_right d v)
  have b1 : redN d v ≤ d := Int.ediv_le_self _ (by omega)
  have b2 : redD d v ≤ v := Int.ediv_le_self _ (by omega)
  omega

def BegPost (l : List (Int × Int)) (w : World) (e : Ending) (w' : World) : Prop :=
  Below w.heap.size w w' ∧ ((begF (1, 1) l).2 = true → ∃ A c, e = .returned (.tuple #[.slice A (l.length + 1) c, .bool true]) ∧ Reads w' w'.heap.size 2 A (l.length + 1) (cells2 (begF (1, 1) l).1)) ∧
    ((begF (1, 1) l).2 = false → e = .returned (.tuple #[.slice none 0 0, .bool false]))

theorem begF_step {f g : Int × Int} {l : List (Int × Int)} (h : smallB (f.1 * g.1) (f.2 * g.2) = true) :
    begF f (g :: l) = (f :: (begF (redN (f.1 * g.1) (f.2 * g.2), redD (f.1 * g.1) (f.2 * g.2)) l).1, (begF (redN (f.1 * g.1) (f.2 * g.2), redD (f.1 * g.1) (f.2 * g.2)) l).2) := by
  simp only [begF]; rw [if_pos h]
theorem begF_stop {f g : Int × Int} {l : List (Int × Int)} (h : smallB (f.1 * g.1) (f.2 * g.2) = false) : begF f (g :: l) = ([f], false) := by
  simp only [begF]; rw [if_neg (by rw [h]; exact Bool.false_ne_true)]


end Go.Proofs.Ytoiconebcmneiab

end

section
/- The contracts of Ratio and MeetAgain, of the program and of the reference, and of the reference's Returns. -/
namespace Go.Proofs.Ytoiconebcmneiab
open Go.RowKit

def lastF (L : List (Int × Int)) (s : Int × Int) : Int × Int := L.foldl (fun _ f => f) s
theorem last_get : ∀ (L : List (Int × Int)) (s : Int × Int) (n : Nat), L.length = n + 1 → L[n]? = some (lastF L s)
  | [a], s, n, h => by
    have : n = 0 := by simpa using h.symm
    subst this
    rfl
  | a :: b :: t, s, n, h => by
    obtain ⟨m, rfl⟩ : ∃ m, n = m + 1 := ⟨n - 1, by simp at h; omega⟩
    have := last_get (b :: t) a m (by simpa using h)
    simpa [lastF] using this
  | [], s, n, h => by simp at h

/-- What Ratio answers. -/
def ratioF (l : List (Int × Int)) : (Int × Int) × Int :=
  if trainErr l ≠ 0 then ((0, 0), trainErr l) else if (begF (1, 1) l).2 = false then ((0, 0), 8) else (lastF (begF (1, 1) l).1 (0, 0), 0)

/-- What the function value of Ratio finds: its variable, and all below it as it was. -/
structure InvL (w0 : World) (ob : Nat) (s : Int × Int) (w : World) : Prop where
  low : Below w0.heap.size w0 w
  out : Blk w ob 53 #[.int .i64 s.1, .int .i64 s.2]

set_option maxRecDepth 100000 in
theorem ratio1_any (w0 : World) (ob B : Nat) (hl : w0.heap.size ≤ ob) (hlB : ob < B) (s : Int × Int) (w : World) (f : Int × Int) (hB : B ≤ w.heap.size) (hi : InvL w0 ob s w) :
    Calls Try.prog 73 #[.agg #[.int .i64 f.1, .int .i64 f.2], .pointer (some ⟨ob, 0, none⟩)] w fun e w' => e = .returned (.tuple #[]) ∧ InvL w0 ob f w' ∧ Keeps B w w' := by
  obtain ⟨s1, s2⟩ := s
  obtain ⟨fn, fd⟩ := f
  obtain ⟨i1, i2⟩ := hi
  have y0 : ∀ o, (w.alloc o).cell? ⟨ob, 0, none⟩ = some (.int .i64 s1) := fun o => (i2.alloc o).cell 0
  have y1 : ∀ o, (w.alloc o).cell? ⟨ob, 1, none⟩ = some (.int .i64 s2) := fun o => (i2.alloc o).cell 1
  have y2 : ∀ o, (w.alloc o).frozen? ⟨ob, 0, none⟩ = false := fun o => (i2.alloc o).frozen 0
  have y3 : ∀ o, (w.alloc o).frozen? ⟨ob, 1, none⟩ = false := fun o => (i2.alloc o).frozen 1
  have I1 := Lib.hid i1
  have I2 := Lib.hid i2
  clear i1 i2
  have y4 := y0 (.cells #[.int .i64 fn, .int .i64 fd] 53)
  have y5 := y1 (.cells #[.int .i64 fn, .int .i64 fd] 53)
  have y6 := y2 (.cells #[.int .i64 fn, .int .i64 fd] 53)
  have y7 := y3 (.cells #[.int .i64 fn, .int .i64 fd] 53)
  clear y0 y1 y2 y3
  go_enter Try.func73, Try.ntmps73
  go_wp2
  go_end0
  refine ⟨rfl, ⟨((I1.out.alloc I1.out.size _).setCell (p := ⟨ob, 0, none⟩) hl _).setCell (p := ⟨ob, 1, none⟩) hl _, ?_⟩, by simp [World.setCell], fun k hk1 hk2 => ?_⟩
  · have := ((I2.out.alloc (.cells #[.int .i64 fn, .int .i64 fd] 53)).set_ 0 (.int .i64 fn)).set_ 1 (.int .i64 fd)
    simpa using this
  · have n1 : k ≠ ob := by omega
    rw [Below.heap_setCell _ ⟨ob, 1, none⟩ _ _ n1, Below.heap_setCell _ ⟨ob, 0, none⟩ _ _ n1]
    exact Below.heap_alloc _ _ _ hk2

theorem ratio1_each (w0 : World) (ob B : Nat) (hl : w0.heap.size ≤ ob) (hlB : ob < B) :
    Each B 73 #[.pointer (some ⟨ob, 0, none⟩)] (InvL w0 ob) (fun _ f => f) where
  ent := fun _ _ => by kernel_rfl
  call := fun s w f hB hi _ _ => ratio1_any w0 ob B hl hlB s w f hB hi
  keep := fun s w w' hi hb => ⟨hi.low.trans (hb.mono (by omega)), hi.out.below hb hlB⟩

set_option maxRecDepth 100000 in
set_option maxHeartbeats 1000000 in
theorem ratio_any (A : Option Addr) (n c N : Nat) (l : List (Int × Int)) (w : World) (hx : Reads w N 2 A n (cells2 l)) (hN : N ≤ w.heap.size) (hn : n ≤ 9223372036854775807) :
    Calls Try.prog 30 #[.slice A n c] w fun e w' => e = .returned (.tuple #[.agg #[.int .i64 (ratioF l).1.1, .int .i64 (ratioF l).1.2], .int .i64 (ratioF l).2]) ∧ Below w.heap.size w w' := by
  have HX := Lib.hid hx
  clear hx
  obtain ⟨R, hR⟩ : ∃ R, ratioF l = R := ⟨_, rfl⟩
  rw [hR]
  obtain ⟨⟨x, y⟩, e⟩ := R
  by_cases h0 : trainErr l = 0
  · obtain ⟨hlen, hok⟩ := trainErr_ok h0
    have hF : (if (begF (1, 1) l).2 = false then ((0, 0), 8) else (lastF (begF (1, 1) l).1 (0, 0), 0)) = ((x, y), e) := by
      rw [← hR]
      unfold ratioF
      rw [if_neg (show ¬ trainErr l ≠ 0 by rw [h0]; simp)]
    obtain ⟨⟨L, ok⟩, hB⟩ : ∃ r, begF (1, 1) l = r := ⟨_, rfl⟩
    rw [hB] at hF
    have htr : trainF (fun _ f => f) ((fun _ f => f) ((0, 0) : Int × Int) ((1, 1) : Int × Int)) (1, 1) l = (lastF L (0, 0), ok) := by rw [trainF_beg (fun _ f => f) l (0, 0) (1, 1), hB]; rfl
    obtain ⟨t, ht⟩ : ∃ t, lastF L (0, 0) = t := ⟨_, rfl⟩
    rw [ht] at htr hF
    have HF := Lib.hid hF
    have H0 := Lib.hid h0
    have HOK := Lib.hid hok
    have HTR := Lib.hid htr
    clear hF hok hR htr hB h0 ht
    go_enter Try.func30, Try.ntmps30
    go_wp2_with fail
    refine (checktrain_is A n c N l 0 H0.out _ (HX.out.belowLe (by first | exact Below.refl _ _ | exact (Below.refl _ _).alloc (Nat.le_refl _) _) hN) (by simp; omega) hn).mono ?_
    rintro e w1 ⟨rfl, hb⟩
    have HB1 := Lib.hid (show Below w.heap.size w w1 from step_below hb (by repeat' (first | exact Below.refl _ _ | exact HB0.out | refine below_drewN ?_ _ | refine Below.drew ?_ | refine Below.alloc ?_ (by first | omega | (simp; done) | (simp; omega) | (simp [World.setCell]; omega)) _ | refine Below.setCell ?_ (by first | omega | (simp; done) | (simp; omega)) _ | assumption)))
    have K0_1 := Lib.hid (step_blk hb (show Blk _ (w.heap.size) 53 #[.int .i64 (0), .int .i64 (0)] by repeat' (first | exact Blk.at_ _ (by first | rfl | (simp; done) | (simp; omega)) _ _ | refine Blk.drewN ?_ _ | refine Blk.drew ?_ | refine Blk.alloc ?_ _ | refine Blk.far ?_ (by first | omega | (simp; done) | (simp; omega)) _ | assumption)))
    have hz1 := hb.size
    try simp only [World.size_alloc, World.drewN, World.drew] at hz1
    clear hb
    have l0_1 : w.heap.size < w1.heap.size := K0_1.out.lt
    have z0_0_1 : w1.cell? ⟨w.heap.size, 0, none⟩ = some (.int .i64 (0)) := K0_1.out.cell 0
    have z0_1_1 : w1.cell? ⟨w.heap.size, 1, none⟩ = some (.int .i64 (0)) := K0_1.out.cell 1
    have hrd := HX.out.belowLe HB1.out hN
    have HRD := Lib.hid hrd
    clear hrd
    go_wp2_with fail
    refine (train_is (w1.heap.size + 1) 73 #[.pointer (some ⟨w1.heap.size, 0, none⟩)] (InvL w1 w1.heap.size) (fun _ f => f) (ratio1_each w1 _ _ (by omega) (by omega)) A n c N l _ (0, 0) t ok HTR.out (by simp) (by omega) (fun s w' hi => HRD.out.belowLe hi.low (by omega)) ⟨(Below.refl _ _).alloc (Nat.le_refl _) _, Blk.new _ _ _⟩ hn HOK.out).mono ?_
    rintro e w2 ⟨rfl, hi⟩
    have hb := hi.low
    have hout := hi.out
    have hz2 := hb.size
    have hbb := HB1.out.trans (hb.mono (by omega))
    have hk0 := K0_1.out.below hb K0_1.out.lt
    clear hi z0_0_1 z0_1_1
    have d0 := hout.cell 0
    have d1 := hout.cell 1
    have ld := hout.lt
    have HB2 := Lib.hid hbb
    have K0_2 := Lib.hid (show Blk w2 (w.heap.size) 53 #[.int .i64 (0), .int .i64 (0)] from hk0)
    have K1_2 := Lib.hid (show Blk w2 (w1.heap.size) 53 #[.int .i64 (t.1), .int .i64 (t.2)] from hout)
    clear hbb hk0 hout
    have l0_2 : w.heap.size < w2.heap.size := K0_2.out.lt
    have z0_0_2 : w2.cell? ⟨w.heap.size, 0, none⟩ = some (.int .i64 (0)) := K0_2.out.cell 0
    have z0_1_2 : w2.cell? ⟨w.heap.size, 1, none⟩ = some (.int .i64 (0)) := K0_2.out.cell 1
    have l1_2 : w1.heap.size < w2.heap.size := K1_2.out.lt
    have z1_0_2 : w2.cell? ⟨w1.heap.size, 0, none⟩ = some (.int .i64 (t.1)) := K1_2.out.cell 0
    have z1_1_2 : w2.cell? ⟨w1.heap.size, 1, none⟩ = some (.int .i64 (t.2)) := K1_2.out.cell 1
    have zf0_0 := K0_2.out.frozen 0
    have zf0_1 := K0_2.out.frozen 1
    cases ok with
    | false =>
      have hF := HF.out
      rw [if_pos rfl] at hF
      cases hF
      go_wp2
      exact bodyPost_ret (v := .tuple #[.agg #[.int .i64 0, .int .i64 0], .int .i64 8]) (by simp [results, Try.results30, go_sem, z0_0_2, z0_1_2, l0_2]) rfl ⟨rfl, by repeat' (first | exact Below.refl _ _ | exact HB2.out | refine below_drewN ?_ _ | refine Below.drew ?_ | refine Below.alloc ?_ (by first | omega | (simp; done) | (simp; omega) | (simp [World.setCell]; omega)) _ | refine Below.setCell ?_ (by first | omega | (simp; done) | (simp; omega)) _ | assumption)⟩
    | true =>
      have hF := HF.out
      rw [if_neg (by simp)] at hF
      cases hF
      go_wp2
      exact bodyPost_ret (v := .tuple #[.agg #[.int .i64 x, .int .i64 y], .int .i64 0]) (by simp [results, Try.results30, go_sem, z0_0_2, z0_1_2, z1_0_2, z1_1_2, l0_2, l1_2]) rfl ⟨rfl, by repeat' (first | exact Below.refl _ _ | exact HB2.out | refine below_drewN ?_ _ | refine Below.drew ?_ | refine Below.alloc ?_ (by first | omega | (simp; done) | (simp; omega) | (simp [World.setCell]; omega)) _ | refine Below.setCell ?_ (by first | omega | (simp; done) | (simp; omega)) _ | assumption)⟩
  · have hF : ((0, 0), trainErr l) = ((x, y), e) := by rw [← hR]; unfold ratioF; rw [if_pos h0]
    obtain ⟨T, hT⟩ : ∃ T, trainErr l = T := ⟨_, rfl⟩
    rw [hT] at hF h0
    have hne : (T != 0) = true := by simpa using h0
    cases hF
    have HT := Lib.hid hT
    clear hT hR h0
    go_enter Try.func30, Try.ntmps30
    go_wp2_with fail
    refine (checktrain_is A n c N l _ HT.out _ (HX.out.belowLe (by first | exact Below.refl _ _ | exact (Below.refl _ _).alloc (Nat.le_refl _) _) hN) (by simp; omega) hn).mono ?_
    rintro e w1 ⟨rfl, hb⟩
    have HB1 := Lib.hid (show Below w.heap.size w w1 from step_below hb (by repeat' (first | exact Below.refl _ _ | exact HB0.out | refine below_drewN ?_ _ | refine Below.drew ?_ | refine Below.alloc ?_ (by first | omega | (simp; done) | (simp; omega) | (simp [World.setCell]; omega)) _ | refine Below.setCell ?_ (by first | omega | (simp; done) | (simp; omega)) _ | assumption)))
    have K0_1 := Lib.hid (step_blk hb (show Blk _ (w.heap.size) 53 #[.int .i64 (0), .int .i64 (0)] by repeat' (first | exact Blk.at_ _ (by first | rfl | (simp; done) | (simp; omega)) _ _ | refine Blk.drewN ?_ _ | refine Blk.drew ?_ | refine Blk.alloc ?_ _ | refine Blk.far ?_ (by first | omega | (simp; done) | (simp; omega)) _ | assumption)))
    have hz1 := hb.size
    try simp only [World.size_alloc, World.drewN, World.drew] at hz1
    clear hb
    have l0_1 : w.heap.size < w1.heap.size := K0_1.out.lt
    have z0_0_1 : w1.cell? ⟨w.heap.size, 0, none⟩ = some (.int .i64 (0)) := K0_1.out.cell 0
    have z0_1_1 : w1.cell? ⟨w.heap.size, 1, none⟩ = some (.int .i64 (0)) := K0_1.out.cell 1
    have zf0_0 := K0_1.out.frozen 0
    have zf0_1 := K0_1.out.frozen 1
    go_wp2
    exact bodyPost_ret (v := .tuple #[.agg #[.int .i64 0, .int .i64 0], .int .i64 e]) (by simp [results, Try.results30, go_sem, z0_0_1, z0_1_1, l0_1]) rfl ⟨rfl, by repeat' (first | exact Below.refl _ _ | exact HB1.out | refine below_drewN ?_ _ | refine Below.drew ?_ | refine Below.alloc ?_ (by first | omega | (simp; done) | (simp; omega) | (simp [World.setCell]; omega)) _ | refine Below.setCell ?_ (by first | omega | (simp; done) | (simp; omega)) _ | assumption)⟩

theorem ratio_is (A : Option Addr) (n c N : Nat) (l : List (Int × Int)) (x y e : Int) (h : ratioF l = ((x, y), e)) (w : World) (hx : Reads w N 2 A n (cells2 l)) (hN : N ≤ w.heap.size) (hn : n ≤ 9223372036854775807) :
    Calls Try.prog 30 #[.slice A n c] w fun en w' => en = .returned (.tuple #[.agg #[.int .i64 x, .int .i64 y], .int .i64 e]) ∧ Below w.heap.size w w' := by
  have := ratio_any A n c N l w hx hN hn
  rw [h] at this
  exact this


end Go.Proofs.Ytoiconebcmneiab

end

section
/- The contracts of MeetAgain, of the program and of the reference, and of the reference's Returns. -/
namespace Go.Proofs.Ytoiconebcmneiab
open Go.RowKit

def meetF (d v : Int) : Int := v / (Int.gcd d v : Int)
theorem trainErr_one (p : Int × Int) : trainErr [p] = if okP p then 0 else 2 := by
  unfold trainErr
  rw [if_neg (by simp)]
  simp

theorem gcdref_ret (a b : Int) (w : World) (h1 : 1 ≤ a) (h2 : a ≤ 9223372036854775807) (h3 : 1 ≤ b) (h4 : b ≤ 9223372036854775807) :
    Calls Try.prog 41 #[.int .i64 a, .int .i64 b] w fun e w' => e = .returned (.int .i64 (Int.gcd a b : Int)) ∧ ∃ n, w' = w.drewN n := by
  have hg := gcd_small a b (by omega) h4
  exact (gcdref_any a b w (by omega) h2 (by omega) h4).mono fun e w' ⟨he, hw⟩ => ⟨by rw [he]; exact ret_int hg, hw⟩

theorem meet_bound {d v : Int} (h1 : 1 ≤ d) (h2 : 1 ≤ v) : 1 ≤ (Int.gcd d v : Int) ∧ v.tdiv (Int.gcd d v : Int) = meetF d v ∧ 1 ≤ meetF d v ∧ meetF d v ≤ v := by
  have hp : 0 < Int.gcd d v := Int.gcd_pos_of_ne_zero_right d (by omega)
  have a2 : 0 < v / (Int.gcd d v : Int) := Int.ediv_pos_of_pos_of_dvd (by omega) (by omega) (Int.gcd_dvd_right d v)
  have b2 : v / (Int.gcd d v : Int) ≤ v := Int.ediv_le_self _ (by omega)
  exact ⟨by omega, tdiv_gcd_right d v, by unfold meetF; omega, by unfold meetF; omega⟩




/-- The turns by the reference. -/
def retF : Int → List (Int × Int) → Int × Int
  | n, [] => (n, 0)
  | n, f :: l => if 1000000000 < n / (Int.gcd n f.2 : Int) * f.2 then (0, 8) else retF (n / (Int.gcd n f.2 : Int) * f.2) l
theorem fold_large : ∀ (L : List (Int × Int)) (t : Int), (L.foldl stepR (t, true)) = (t, true)
  | [], _ => rfl
  | f :: L, t => by
    simp only [List.foldl_cons]
    rw [show stepR (t, true) f = (t, true) from rfl, fold_large L t]
theorem retF_fold : ∀ (L : List (Int × Int)) (n : Int), retF n L = if (L.foldl stepR (n, false)).2 then (0, 8) else ((L.foldl stepR (n, false)).1, 0)
  | [], _ => rfl
  | f :: L, n => by
    have hf : List.foldl stepR (n, false) (f :: L) = List.foldl stepR (stepR (n, false) f) L := rfl
    rw [hf]
    simp only [retF]
    by_cases h : 1000000000 < n / (Int.gcd n f.2 : Int) * f.2
    · rw [if_pos h, show stepR (n, false) f = (n / (Int.gcd n f.2 : Int) * f.2, true) by simp [stepR, h], fold_large]
      rfl
    · rw [if_neg h, show stepR (n, false) f = (n / (Int.gcd n f.2 : Int) * f.2, false) by simp [stepR, h], retF_fold L]
theorem returnsF_eq {l : List (Int × Int)} (h0 : trainErr l = 0) : returnsF l = if (begF (1, 1) l).2 = false then (0, 8) else retF 1 (begF (1, 1) l).1 := by
  unfold returnsF
  rw [if_neg (show ¬ trainErr l ≠ 0 by rw [h0]; simp)]
  unfold trainR
  rw [trainF_beg, retF_fold]
  simp only
  cases (begF (1, 1) l).2 <;> cases (List.foldl stepR (1, false) (begF (1, 1) l).1).2 <;> simp

theorem retF_step {n : Int} {f : Int × Int} {L : List (Int × Int)} : retF n (f :: L) = if 1000000000 < n / (Int.gcd n f.2 : Int) * f.2 then (0, 8) else retF (n / (Int.gcd n f.2 : Int) * f.2) L := rfl


end Go.Proofs.Ytoiconebcmneiab

end
