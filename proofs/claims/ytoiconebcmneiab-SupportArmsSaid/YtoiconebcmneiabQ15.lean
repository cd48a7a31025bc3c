import Derived.Test.YtoiconebcmneiabQ8
import Derived.Test.YtoiconebcmneiabQ1
import Derived.Test.YtoiconebcmneiabQ14
import Derived.Test.YtoiconebcmneiabQ5
import Derived.Test.YtoiconebcmneiabQ9

section
/- The class of worlds of a region whose order is left open and which makes a struct of two cells and stores into it. -/
namespace Go.Proofs.Ytoiconebcmneiab
open Go.RowKit

/-- All that was there is as it was; the new block x, once it is made, holds two cells: v0 and v1 when operation s (the store) has come. -/
def MkD (T : TypeId) (v0 v1 : Value) (s : Nat) (W : World) (g : Option Nat) (f : Nat → Bool) (w' : World) : Prop :=
  Below W.heap.size W w' ∧ ∀ x, g = some x → W.heap.size ≤ x ∧ ∃ e0 e1, Blk w' x T #[e0, e1] ∧ (f s = true → e0 = v0 ∧ e1 = v1)

section
variable {T : TypeId} {v0 v1 : Value} {s : Nat} {W w' w'' : World} {g : Option Nat} {f : Nat → Bool} {x k : Nat}
theorem add_ne (hk : k ≠ s) : Fx.add f k s = f s := by
  unfold Fx.add
  cases h : s.beq k with
  | false => simp
  | true => exact absurd (Nat.eq_of_beq_eq_true h).symm hk
theorem MkD.start (h : Below W.heap.size W w') : MkD T v0 v1 s W none f w' := ⟨h, fun x h => by cases h⟩
theorem MkD.step (h : MkD T v0 v1 s W g f w') (hb : Below w'.heap.size w' w'') (hk : k ≠ s) : MkD T v0 v1 s W g (Fx.add f k) w'' := by
  refine ⟨h.1.trans (hb.mono h.1.size), fun x hx => ?_⟩
  obtain ⟨h1, e0, e1, h2, h3⟩ := h.2 x hx
  exact ⟨h1, e0, e1, h2.below hb h2.lt, fun h => h3 (by rwa [add_ne hk] at h)⟩
theorem MkD.make {a b : Value} (h : MkD T v0 v1 s W none f w') (hs : f s = false) (hk : k ≠ s) : MkD T v0 v1 s W (some w'.heap.size) (Fx.add f k) (w'.alloc (.cells #[a, b] T)) := by
  refine ⟨h.1.alloc h.1.size _, fun x hx => ?_⟩
  cases hx
  refine ⟨h.1.size, a, b, Blk.new _ _ _, fun h => ?_⟩
  rw [add_ne hk, hs] at h
  cases h
theorem MkD.store (h : MkD T v0 v1 s W (some x) f w') : MkD T v0 v1 s W (some x) (Fx.add f s) ((w'.setCell ⟨x, 0, none⟩ v0).setCell ⟨x, 1, none⟩ v1) := by
  obtain ⟨h1, e0, e1, h2, -⟩ := h.2 x rfl
  refine ⟨(h.1.setCell (p := ⟨x, 0, none⟩) h1 _).setCell (p := ⟨x, 1, none⟩) h1 _, fun y hy => ?_⟩
  cases hy
  refine ⟨h1, v0, v1, ?_, fun _ => ⟨rfl, rfl⟩⟩
  have := (h2.set_ 0 v0).set_ 1 v1
  simpa using this
theorem MkD.cells (h : MkD T v0 v1 s W (some x) f w') : ∃ e0 e1, w'.cell? ⟨x, 0, none⟩ = some e0 ∧ w'.cell? ⟨x, 1, none⟩ = some e1 ∧ w'.frozen? ⟨x, 0, none⟩ = false ∧ w'.frozen? ⟨x, 1, none⟩ = false := by
  obtain ⟨h1, e0, e1, h2, -⟩ := h.2 x rfl
  exact ⟨e0, e1, h2.cell 0, h2.cell 1, h2.frozen 0, h2.frozen 1⟩
end

/-- A block g of two cells is stored into, each cell once (operations s0, s1); all below g is as it was. -/
def UpD (T : TypeId) (g : Nat) (r0 r1 m0 m1 : Value) (s0 s1 : Nat) (W : World) (f : Nat → Bool) (w' : World) : Prop :=
  Below g W w' ∧ ∃ e0 e1, Blk w' g T #[e0, e1] ∧ (f s0 = false → e0 = r0) ∧ (f s0 = true → e0 = m0) ∧ (f s1 = false → e1 = r1) ∧ (f s1 = true → e1 = m1)
section
variable {T : TypeId} {g : Nat} {r0 r1 m0 m1 : Value} {s0 s1 k : Nat} {W w' w'' : World} {f : Nat → Bool}
theorem add_eq : Fx.add f k k = true := by
  unfold Fx.add
  rw [show Nat.beq k k = true from Nat.beq_refl k]
  rfl
theorem UpD.start (h : Below g W w') (hg : Blk w' g T #[r0, r1]) (h0 : f s0 = false) (h1 : f s1 = false) : UpD T g r0 r1 m0 m1 s0 s1 W f w' :=
  ⟨h, r0, r1, hg, fun _ => rfl, fun e => (by rw [h0] at e; cases e), fun _ => rfl, fun e => (by rw [h1] at e; cases e)⟩
theorem UpD.same (h : UpD T g r0 r1 m0 m1 s0 s1 W f w') (k0 : k ≠ s0) (k1 : k ≠ s1) : UpD T g r0 r1 m0 m1 s0 s1 W (Fx.add f k) w' := by
  obtain ⟨h1, e0, e1, h2, a, b, c, d⟩ := h
  refine ⟨h1, e0, e1, h2, ?_, ?_, ?_, ?_⟩
  · rw [add_ne k0]; exact a
  · rw [add_ne k0]; exact b
  · rw [add_ne k1]; exact c
  · rw [add_ne k1]; exact d
theorem UpD.store0 (h : UpD T g r0 r1 m0 m1 s0 s1 W f w') (hne : s0 ≠ s1) : UpD T g r0 r1 m0 m1 s0 s1 W (Fx.add f s0) (w'.setCell ⟨g, 0, none⟩ m0) := by
  obtain ⟨h1, e0, e1, h2, a, b, c, d⟩ := h
  refine ⟨h1.setCell (p := ⟨g, 0, none⟩) (Nat.le_refl _) _, m0, e1, by simpa using h2.set_ 0 m0, fun e => ?_, fun _ => rfl, ?_, ?_⟩
  · rw [add_eq] at e; cases e
  · rw [add_ne hne]; exact c
  · rw [add_ne hne]; exact d
theorem UpD.store1 (h : UpD T g r0 r1 m0 m1 s0 s1 W f w') (hne : s0 ≠ s1) : UpD T g r0 r1 m0 m1 s0 s1 W (Fx.add f s1) (w'.setCell ⟨g, 1, none⟩ m1) := by
  obtain ⟨h1, e0, e1, h2, a, b, c, d⟩ := h
  refine ⟨h1.setCell (p := ⟨g, 1, none⟩) (Nat.le_refl _) _, e0, m1, by simpa using h2.set_ 1 m1, ?_, ?_, fun e => ?_, fun _ => rfl⟩
  · rw [add_ne (Ne.symm hne)]; exact a
  · rw [add_ne (Ne.symm hne)]; exact b
  · rw [add_eq] at e; cases e
theorem UpD.read0 (h : UpD T g r0 r1 m0 m1 s0 s1 W f w') (h0 : f s0 = false) : w'.cell? ⟨g, 0, none⟩ = some r0 ∧ w'.frozen? ⟨g, 0, none⟩ = false := by
  obtain ⟨h1, e0, e1, h2, a, b, c, d⟩ := h
  exact ⟨a h0 ▸ h2.cell 0, h2.frozen 0⟩
theorem UpD.read1 (h : UpD T g r0 r1 m0 m1 s0 s1 W f w') (h0 : f s1 = false) : w'.cell? ⟨g, 1, none⟩ = some r1 ∧ w'.frozen? ⟨g, 1, none⟩ = false := by
  obtain ⟨h1, e0, e1, h2, a, b, c, d⟩ := h
  exact ⟨c h0 ▸ h2.cell 1, h2.frozen 1⟩
/-- Only cell 1 is stored into. -/
theorem UpD.end1 (h : UpD T g r0 r1 r0 m1 s0 s1 W f w') (h1 : f s1 = true) : Below g W w' ∧ Blk w' g T #[r0, m1] := by
  obtain ⟨h1', e0, e1, h2, a, b, c, d⟩ := h
  have e : e0 = r0 := by
    cases hf : f s0 with
    | false => exact a hf
    | true => exact b hf
  exact ⟨h1', e ▸ d h1 ▸ h2⟩
/-- Only cell 0 is stored into. -/
theorem UpD.end0 (h : UpD T g r0 r1 m0 r1 s0 s1 W f w') (h1 : f s0 = true) : Below g W w' ∧ Blk w' g T #[m0, r1] := by
  obtain ⟨h1', e0, e1, h2, a, b, c, d⟩ := h
  have e : e1 = r1 := by
    cases hf : f s1 with
    | false => exact c hf
    | true => exact d hf
  exact ⟨h1', b h1 ▸ e ▸ h2⟩
theorem UpD.start' (h : Below g W w') (hg : Blk w' g T #[r0, r1]) (h0 : f s0 = false) (h1 : f s1 = false) : UpD T g r0 r1 m0 m1 s0 s1 W f w' := UpD.start h hg h0 h1
theorem UpD.end_ (h : UpD T g r0 r1 m0 m1 s0 s1 W f w') (h0 : f s0 = true) (h1 : f s1 = true) : Below g W w' ∧ Blk w' g T #[m0, m1] := by
  obtain ⟨h1', e0, e1, h2, a, b, c, d⟩ := h
  exact ⟨h1', b h0 ▸ d h1 ▸ h2⟩
end

end Go.Proofs.Ytoiconebcmneiab

end

section
/- The reference's functions on trains of gears: the check, the products, the ratio and the turns. -/
namespace Go.Proofs.Ytoiconebcmneiab
open Go.RowKit

theorem rchecktrain_any (A : Option Addr) (n c N : Nat) (l : List (Int × Int)) (w : World) (hx : Reads w N 2 A n (cells2 l)) (hN : N ≤ w.heap.size) (hn : n ≤ 9223372036854775807) :
    Calls Try.prog 29 #[.slice A n c] w fun e w' => e = .returned (.int .i64 (trainErr l)) ∧ Below w.heap.size w w' := by
  have hxl := Lib.hid hx.len2
  have HX := Lib.hid hx
  clear hx
  by_cases h12 : (12 : Int) < n
  · have HE : Hid (trainErr l = 8) := by show _ = _; unfold trainErr; rw [if_pos (by rw [hxl.out]; omega)]
    go_enter Try.func29, Try.ntmps29
    go_wp2
    go_ret
    exact ⟨ret_int HE.out.symm, Below.refl _ _⟩
  have HE : Hid (trainErr l = if l.all okP then 0 else 2) := by show _ = _; unfold trainErr; rw [if_neg (by rw [hxl.out]; omega)]
  go_enter Try.func29, Try.ntmps29
  go_wp2
  go_loopw [3] (fun i wr => ∃ k : Nat, k ≤ n ∧ i = .int .i64 k ∧ (l.take k).all okP = true ∧ Below w.heap.size w wr) (fun i _ => n - (intOf i).toNat)
  case atStart => exact ⟨0, by omega, rfl, rfl, Below.refl _ _⟩
  case round =>
    obtain ⟨k, hk, rfl, ht, hb⟩ := hrel
    have HT := Lib.hid ht
    have HB := Lib.hid hb
    clear ht hb
    by_cases hlt : k < n
    · obtain ⟨xb, xo, p, rfl, hxb, hp, c0, c1⟩ := (HX.out.belowLe HB.out hN).pair hlt
      have HP := Lib.hid hp
      clear hp
      cases h1 : withinB p.1 1 500 with
      | false =>
        have HO := Lib.hid (okP_no1 h1)
        go_wp2_with (first | (go_at_call 70; refine (isteeth_any _ _ (by assumption) _).mono ?_; rintro e w' ⟨rfl, rfl⟩))
        go_ret
        exact ⟨ret_int (by rw [HE.out, all_no HP.out HO.out]; rfl), HB.out⟩
      | true =>
        cases h2 : withinB p.2 1 500 with
        | false =>
          have HO := Lib.hid (okP_no2 h2)
          go_wp2_with (first | (go_at_call 70; refine (isteeth_any _ _ (by assumption) _).mono ?_; rintro e w' ⟨rfl, rfl⟩))
          go_ret
          exact ⟨ret_int (by rw [HE.out, all_no HP.out HO.out]; rfl), HB.out⟩
        | true =>
          have HO := Lib.hid (okP_yes h1 h2)
          go_wp2_with (first | (go_at_call 70; refine (isteeth_any _ _ (by assumption) _).mono ?_; rintro e w' ⟨rfl, rfl⟩))
          go_roundw
          case rel => exact ⟨k + 1, by omega, by go_num, all_take_succ HT.out HP.out HO.out, HB.out⟩
          case measure => simp [intOf]; omega
    · go_wp2
      go_ret
      have e : l.take k = l := List.take_of_length_le (by rw [hxl.out]; omega)
      exact ⟨ret_int (by rw [HE.out, ← e, HT.out]; rfl), HB.out⟩

theorem rchecktrain_is (A : Option Addr) (n c N : Nat) (l : List (Int × Int)) (t : Int) (h : trainErr l = t) (w : World) (hx : Reads w N 2 A n (cells2 l)) (hN : N ≤ w.heap.size) (hn : n ≤ 9223372036854775807) :
    Calls Try.prog 29 #[.slice A n c] w fun e w' => e = .returned (.int .i64 t) ∧ Below w.heap.size w w' := h ▸ rchecktrain_any A n c N l w hx hN hn

/-- All products from one on, and whether all are small. -/
def begF : Int × Int → List (Int × Int) → List (Int × Int) × Bool
  | f, [] => ([f], true)
  | f, g :: l => if smallB (f.1 * g.1) (f.2 * g.2) then (f :: (begF (redN (f.1 * g.1) (f.2 * g.2), redD (f.1 * g.1) (f.2 * g.2)) l).1, (begF (redN (f.1 * g.1) (f.2 * g.2), redD (f.1 * g.1) (f.2 * g.2)) l).2) else ([f], false)

theorem trainF_beg {σ : Type} (step : σ → Int × Int → σ) : ∀ (l : List (Int × Int)) (s : σ) (f : Int × Int), trainF step (step s f) f l = ((begF f l).1.foldl step s, (begF f l).2)
  | [], s, f => rfl
  | g :: l, s, f => by
    simp only [trainF, begF]
    split
    · rw [trainF_beg step l]; rfl
    · rfl

theorem begF_len : ∀ (l : List (Int × Int)) (f : Int × Int), (begF f l).2 = true → (begF f l).1.length = l.length + 1
  | [], _, _ => rfl
  | g :: l, f, h => by
    simp only [begF] at h ⊢
    split at h
    · rw [if_pos (by assumption)]
      simp only at h ⊢
      rw [List.length_cons, begF_len l _ h]; rfl
    · cases h

theorem begF_part : ∀ (l : List (Int × Int)) (f : Int × Int), l.all okP = true → Part f.1 → Part f.2 → ∀ x ∈ (begF f l).1, Part x.1 ∧ Part x.2
  | [], f, _, h1, h2, x, hx => by simp [begF] at hx; exact hx ▸ ⟨h1, h2⟩
  | g :: l, f, hl, h1, h2, x, hx => by
    simp only [List.all_cons, Bool.and_eq_true] at hl
    obtain ⟨p1, p2, p3, p4⟩ := okP_part hl.1
    simp only [begF] at hx
    split at hx
    · rename_i hs
      have hr := red_part (part_bound h1 p1 p2).1 (part_bound h2 p3 p4).1 hs
      rcases List.mem_cons.1 hx with rfl | hx
      · exact ⟨h1, h2⟩
      · exact begF_part l _ hl.2 hr.1 hr.2 x hx
    · simp at hx; exact hx ▸ ⟨h1, h2⟩

/-- The reference takes the ratio of a pair in lowest terms first. -/
theorem of_scale {f1 f2 d v : Int} (hv : 1 ≤ v) (f : Int × Int) (hf : f = (f1, f2)) :
    smallB (f1 * redN d v) (f2 * redD d v) = smallB (f1 * d) (f2 * v) ∧ redN (f1 * redN d v) (f2 * redD d v) = redN (f1 * d) (f2 * v) ∧ redD (f1 * redN d v) (f2 * redD d v) = redD (f1 * d) (f2 * v) := by
  have hp : 0 < Int.gcd d v := Int.gcd_pos_of_ne_zero_right d (by omega)
  have e1 : (Int.gcd d v : Int) * redN d v = d := Int.mul_ediv_cancel' (Int.gcd_dvd_left d v)
  have e2 : (Int.gcd d v : Int) * redD d v = v := Int.mul_ediv_cancel' (Int.gcd_dvd_right d v)
  have hs := red_scale (k := (Int.gcd d v : Int)) (by omega) (f1 * redN d v) (f2 * redD d v)
  have m1 : (Int.gcd d v : Int) * (f1 * redN d v) = f1 * d := by rw [← Int.mul_assoc, Int.mul_comm _ f1, Int.mul_assoc, e1]
  have m2 : (Int.gcd d v : Int) * (f2 * redD d v) = f2 * v := by rw [← Int.mul_assoc, Int.mul_comm _ f2, Int.mul_assoc, e2]
  rw [m1, m2] at hs
  exact ⟨hs.2.2.symm, hs.1.symm, hs.2.1.symm⟩

theorem red_teeth {d v : Int} (h1 : 1 ≤ d) (h2 : d ≤ 500) (h3 : 1 ≤ v) (h4 : v ≤ 500) : 1 ≤ redN d v ∧ redN d v ≤ 500 ∧ 1 ≤ redD d v ∧ redD d v ≤ 500 := by
  have hp : 0 < Int.gcd d v := Int.gcd_pos_of_ne_zero_right d (by omega)
  have a1 : 0 < redN d v := Int.ediv_pos_of_pos_of_dvd (by omega) (by omega) (Int.gcd_dvd_left d v)
  have a2 : 0 < redD d v := Int.ediv_pos_of_pos_of_dvd (by omega) (by omega) (Int.gcd_dvd_right d v)
  have b1 : redN d v ≤ d := Int.ediv_le_self _ (by omega)
  have b2 : redD d v ≤ v := Int.ediv_le_self _ (by omega)
  omega

def BegPost (l : List (Int × Int)) (w : World) (e : Ending) (w' : World) : Prop :=
  Below w.heap.size w w' ∧ ((begF (1, 1) l).2 = true → ∃ A c, e = .returned (.tuple #[.slice A (l.length + 1) c, .bool true]) ∧ Reads w' w'.heap.size 2 A (l.length + 1) (cells2 (begF (1, 1) l).1)) ∧
    ((begF (1, 1) l).2 = false → e = .returned (.tuple #[.slice none 0 0, .bool false]))

theorem begF_step {f g : Int × Int} {l : List (Int × Int)} (h : smallB (f.1 * g.1) (f.2 * g.2) = true) :
    begF f (g :: l) = (f :: (begF (redN (f.1 * g.1) (f.2 * g.2), redD (f.1 * g.1) (f.2 * g.2)) l).1, (begF (redN (f.1 * g.1) (f.2 * g.2), redD (f.1 * g.1) (f.2 * g.2)) l).2) := by
  simp only [begF]; rw [if_pos h]
theorem begF_stop {f g : Int × Int} {l : List (Int × Int)} (h : smallB (f.1 * g.1) (f.2 * g.2) = false) : begF f (g :: l) = ([f], false) := by
  simp only [begF]; rw [if_neg (by rw [h]; exact Bool.false_ne_true)]


end Go.Proofs.Ytoiconebcmneiab

end

section
/- Lists that are known to read so, from one named world to the next. -/
namespace Go.Proofs.Ytoiconebcmneiab
open Go.RowKit

section
variable {w W W1 : World}
theorem reads_mid (_ : Below W.heap.size W W1) {wa : World} (h : Below wa.heap.size wa W) : Below wa.heap.size wa W := h
theorem reads_lay (hb : Below W.heap.size W W1) {wa : World} (ha : Below wa.heap.size wa W) {s n : Nat} {A : Option Addr} {xs : List Value} (h : Reads wa wa.heap.size s A n xs) : Reads W1 W1.heap.size s A n xs :=
  ((h.below ha).below (hb.mono ha.size)).more (Nat.le_trans ha.size hb.size)
end
end Go.Proofs.Ytoiconebcmneiab

end
