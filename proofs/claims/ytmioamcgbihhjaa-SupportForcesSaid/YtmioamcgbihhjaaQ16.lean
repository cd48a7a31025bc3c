import Derived.Test.YtmioamcgbihhjaaQ15
import Derived.Test.YtmioamcgbihhjaaQ8
import Derived.Test.YtmioamcgbihhjaaQ1

section
/- The contract of Returns: the function value that it hands to the train, then the whole. -/
namespace Go.Proofs.Ytmioamcgbihhjaa
open Go.RowKit

/-- The turns so far, and whether they were too many. -/
def stepR (s : Int × Bool) (f : Int × Int) : Int × Bool := if s.2 then s else (s.1 / (Int.gcd s.1 f.2 : Int) * f.2, decide (1000000000 < s.1 / (Int.gcd s.1 f.2 : Int) * f.2))

theorem gcd_ret (a b : Int) (w : World) (h1 : 1 ≤ a) (h2 : a ≤ 9223372036854775807) (h3 : 1 ≤ b) (h4 : b ≤ 9223372036854775807) :
    Calls Try.prog 77 #[.int .i64 a, .int .i64 b] w fun e w' => e = .returned (.int .i64 (Int.gcd a b : Int)) ∧ ∃ n, w' = w.drewN n := by
  have hg := gcd_small a b (by omega) h4
  exact (gcdsup_any a b w (by omega) h2 (by omega) h4).mono fun e w' ⟨he, hw⟩ => ⟨by rw [he]; exact ret_int hg, hw⟩

theorem lcm_bound {a b : Int} (h1 : 1 ≤ a) (h2 : a ≤ 1000000000) (h3 : Part b) : 1 ≤ a / (Int.gcd a b : Int) * b ∧ a / (Int.gcd a b : Int) * b ≤ 1000000000000000000 := by
  obtain ⟨b1, b2⟩ := h3
  have hg : 0 < Int.gcd a b := Int.gcd_pos_of_ne_zero_left b (by omega)
  have d1 : (Int.gcd a b : Int) ∣ a := Int.gcd_dvd_left a b
  have p1 : 0 < a / (Int.gcd a b : Int) := Int.ediv_pos_of_pos_of_dvd (by omega) (by omega) d1
  have p2 : a / (Int.gcd a b : Int) ≤ a := Int.ediv_le_self _ (by omega)
  have m1 := Int.mul_le_mul (show 1 ≤ a / (Int.gcd a b : Int) by omega) b1 (by omega) (by omega)
  have m2 := Int.mul_le_mul (show a / (Int.gcd a b : Int) ≤ 1000000000 by omega) b2 (by omega) (by omega)
  omega

/-- What the function value of Returns finds: its two variables, and all below them as it was. -/
structure InvR (w0 : World) (lb tb : Nat) (s : Int × Bool) (w : World) : Prop where
  low : Below w0.heap.size w0 w
  large : Blk w lb 4 #[.bool s.2]
  turns : Blk w tb 3 #[.int .i64 s.1]
  pos : 1 ≤ s.1
  most : s.1 ≤ 1000000000000000000
  small : s.2 = false → s.1 ≤ 1000000000

set_option maxRecDepth 100000 in
set_option maxHeartbeats 1000000 in
theorem returns1_any (w0 : World) (lb tb B : Nat) (hl : w0.heap.size ≤ lb) (ht : w0.heap.size ≤ tb) (hlt : lb ≠ tb) (hlB : lb < B) (htB : tb < B) (s : Int × Bool) (w : World) (f : Int × Int) (hB : B ≤ w.heap.size) (hi : InvR w0 lb tb s w) (p1 : Part f.1) (p2 : Part f.2) :
    Calls Try.prog 76 #[.agg #[.int .i64 f.1, .int .i64 f.2], .pointer (some ⟨lb, 0, none⟩), .pointer (some ⟨tb, 0, none⟩)] w fun e w' => e = .returned (.tuple #[]) ∧ InvR w0 lb tb (stepR s f) w' ∧ Keeps B w w' := by
  obtain ⟨t, lg⟩ := s
  obtain ⟨fn, fd⟩ := f
  obtain ⟨i1, i2, i3, i4, i5, i6⟩ := hi
  have y0 : ∀ o, (w.alloc o).cell? ⟨lb, 0, none⟩ = some (.bool lg) := fun o => (i2.alloc o).cell 0
  have y1 : ∀ o, (w.alloc o).cell? ⟨tb, 0, none⟩ = some (.int .i64 t) := fun o => (i3.alloc o).cell 0
  have I1 := Lib.hid i1
  have I2 := Lib.hid i2
  have I3 := Lib.hid i3
  clear i1 i2 i3
  cases lg with
  | true =>
    go_enter Try.func76, Try.ntmps76
    go_wp2
    go_end0
    refine ⟨rfl, ⟨I1.out.alloc I1.out.size _, I2.out.alloc _, I3.out.alloc _, i4, i5, i6⟩, by simp, fun k _ hk => Below.heap_alloc _ _ _ hk⟩
  | false =>
    have i6' := i6 rfl
    have hb : 1 ≤ t / (Int.gcd t fd : Int) * fd ∧ t / (Int.gcd t fd : Int) * fd ≤ 1000000000000000000 := lcm_bound i4 i6' p2
    obtain ⟨b1, b2⟩ := p2
    have t0 : ¬ t = 0 := by omega
    have hg0 : (Int.gcd t fd : Int) ≠ 0 := by have := Int.gcd_pos_of_ne_zero_left (a := t) fd (by omega); omega
    have hd := div_gcd_in t fd (by omega) (by omega) hg0
    have e1 := tdiv_gcd_left t fd
    have e2 := IntWalk.i64_in (t / (Int.gcd t fd : Int)) ⟨by omega, by omega⟩
    have e3 := IntWalk.i64_in (t / (Int.gcd t fd : Int) * fd) ⟨by omega, by omega⟩
    clear i6
    have y2 : ∀ o v, ((w.alloc o).setCell ⟨tb, 0, none⟩ v).cell? ⟨tb, 0, none⟩ = some v := fun o v => ((I3.out.alloc o).set_ 0 v).cell 0
    have y3 : ∀ o v, ((w.alloc o).setCell ⟨tb, 0, none⟩ v).cell? ⟨lb, 0, none⟩ = some (.bool false) := fun o v => ((I2.out.alloc o).far (by omega) v).cell 0
    go_enter Try.func76, Try.ntmps76
    go_wp2
    refine Fx.regionW (fun W f w' => (f 9 = false → ∃ q, w' = W.drewN q) ∧ (f 9 = true → ∃ q, w' = (W.drewN q).setCell ⟨tb, 0, none⟩ (.int .i64 (t / (Int.gcd t fd : Int) * fd)))) (by kernel_rfl) (by kernel_rfl) ?_ ?_
    · intro f hf0
      exact ⟨fun _ => ⟨1, rfl⟩, fun h => by rw [hf0 9] at h; cases h⟩
    repeat (first
      | (refine Fx.skip_ (by rfl) (fun f w h => h) ?_; simp only [Act.put, List.setIfInBounds_toArray, List.set_cons_zero, List.set_cons_succ])
      | (refine Fx.val_ ?_ (by rfl) ?_ (fun f w h => h) ?_
         rotate_left
         · intro f w' hD hk
           obtain ⟨h1, h2⟩ := id hD
           obtain ⟨q, rfl⟩ := h1 (by first | exact hk.1 | exact (hk.2.1 9 (by kernel_rfl)) | exact (hk.un 9 8 (by kernel_rfl) (hk.2.1 8 (by kernel_rfl))) | exact (hk.un 9 8 (by kernel_rfl) (hk.un 8 5 (by kernel_rfl) (hk.2.1 5 (by kernel_rfl)))) | exact (hk.un 9 8 (by kernel_rfl) (hk.un 8 7 (by kernel_rfl) (hk.2.1 7 (by kernel_rfl)))) | exact (hk.un 9 8 (by kernel_rfl) (hk.un 8 5 (by kernel_rfl) (hk.un 5 4 (by kernel_rfl) (hk.2.1 4 (by kernel_rfl))))) | exact (hk.un 9 8 (by kernel_rfl) (hk.un 8 5 (by kernel_rfl) (hk.un 5 4 (by kernel_rfl) (hk.un 4 3 (by kernel_rfl) (hk.2.1 3 (by kernel_rfl)))))))
           clear hk hD h1 h2
           go_simp
           try rfl
         simp only [Act.put, List.setIfInBounds_toArray, List.set_cons_zero, List.set_cons_succ]))
    refine Fx.call_ (.int .i64 (Int.gcd t fd : Int)) ?_ ?_ (by rfl) ?_ ?_ ?_
    rotate_left 2
    · intro w'
      go_simp
      refine ⟨?_, ?_⟩ <;> rfl
    · intro f w' hD hk
      obtain ⟨h1, h2⟩ := id hD
      obtain ⟨q, rfl⟩ := h1 (by first | exact hk.1 | exact (hk.2.1 9 (by kernel_rfl)) | exact (hk.un 9 8 (by kernel_rfl) (hk.2.1 8 (by kernel_rfl))) | exact (hk.un 9 8 (by kernel_rfl) (hk.un 8 5 (by kernel_rfl) (hk.2.1 5 (by kernel_rfl)))) | exact (hk.un 9 8 (by kernel_rfl) (hk.un 8 7 (by kernel_rfl) (hk.2.1 7 (by kernel_rfl)))) | exact (hk.un 9 8 (by kernel_rfl) (hk.un 8 5 (by kernel_rfl) (hk.un 5 4 (by kernel_rfl) (hk.2.1 4 (by kernel_rfl))))) | exact (hk.un 9 8 (by kernel_rfl) (hk.un 8 5 (by kernel_rfl) (hk.un 5 4 (by kernel_rfl) (hk.un 4 3 (by kernel_rfl) (hk.2.1 3 (by kernel_rfl)))))))
      have h9 : f 9 = false := by first | exact hk.1 | exact (hk.2.1 9 (by kernel_rfl)) | exact (hk.un 9 8 (by kernel_rfl) (hk.2.1 8 (by kernel_rfl))) | exact (hk.un 9 8 (by kernel_rfl) (hk.un 8 5 (by kernel_rfl) (hk.2.1 5 (by kernel_rfl)))) | exact (hk.un 9 8 (by kernel_rfl) (hk.un 8 7 (by kernel_rfl) (hk.2.1 7 (by kernel_rfl)))) | exact (hk.un 9 8 (by kernel_rfl) (hk.un 8 5 (by kernel_rfl) (hk.un 5 4 (by kernel_rfl) (hk.2.1 4 (by kernel_rfl))))) | exact (hk.un 9 8 (by kernel_rfl) (hk.un 8 5 (by kernel_rfl) (hk.un 5 4 (by kernel_rfl) (hk.un 4 3 (by kernel_rfl) (hk.2.1 3 (by kernel_rfl))))))
      exact (gcd_ret t fd _ i4 (by omega) b1 (by omega)).mono fun e w'' ⟨he, q', hw⟩ => ⟨he, fun _ => ⟨q + q', by rw [hw, World.drewN_drewN]⟩, fun h => by simp [Fx.add, h9] at h⟩
    simp only [Act.put, List.setIfInBounds_toArray, List.set_cons_zero, List.set_cons_succ]
    repeat (first
      | (refine Fx.skip_ (by rfl) (fun f w h => h) ?_; simp only [Act.put, List.setIfInBounds_toArray, List.set_cons_zero, List.set_cons_succ])
      | (refine Fx.val_ ?_ (by rfl) ?_ (fun f w h => h) ?_
         rotate_left
         · intro f w' hD hk
           obtain ⟨h1, h2⟩ := id hD
           obtain ⟨q, rfl⟩ := h1 (by first | exact hk.1 | exact (hk.2.1 9 (by kernel_rfl)) | exact (hk.un 9 8 (by kernel_rfl) (hk.2.1 8 (by kernel_rfl))) | exact (hk.un 9 8 (by kernel_rfl) (hk.un 8 5 (by kernel_rfl) (hk.2.1 5 (by kernel_rfl)))) | exact (hk.un 9 8 (by kernel_rfl) (hk.un 8 7 (by kernel_rfl) (hk.2.1 7 (by kernel_rfl)))) | exact (hk.un 9 8 (by kernel_rfl) (hk.un 8 5 (by kernel_rfl) (hk.un 5 4 (by kernel_rfl) (hk.2.1 4 (by kernel_rfl))))) | exact (hk.un 9 8 (by kernel_rfl) (hk.un 8 5 (by kernel_rfl) (hk.un 5 4 (by kernel_rfl) (hk.un 4 3 (by kernel_rfl) (hk.2.1 3 (by kernel_rfl)))))))
           clear hk hD h1 h2
           go_simp
           try rfl
         simp only [Act.put, List.setIfInBounds_toArray, List.set_cons_zero, List.set_cons_succ]))
    refine Fx.store_ (fun w' => w'.setCell ⟨tb, 0, none⟩ (.int .i64 (t / (Int.gcd t fd : Int) * fd))) (by rfl) ?_ ?_ ?_
    · intro f w' hD hk
      obtain ⟨h1, h2⟩ := id hD
      obtain ⟨q, rfl⟩ := h1 hk.1
      have z1 := y1 (.cells #[.int .i64 fn, .int .i64 fd] 23)
      have z2 := (I3.out.alloc (.cells #[.int .i64 fn, .int .i64 fd] 23)).frozen 0
      clear hk hD
      go_simp
    · intro f w' hD hk
      obtain ⟨h1, h2⟩ := id hD
      obtain ⟨q, rfl⟩ := h1 hk.1
      exact ⟨fun h => by simp [Fx.add] at h, fun _ => ⟨q, rfl⟩⟩
    simp only [Act.put, List.setIfInBounds_toArray, List.set_cons_zero, List.set_cons_succ]
    refine Fx.nil_ ?_
    intro f w1 hall hD
    have hf9 := hall 9 (by simp)
    obtain ⟨_, h2⟩ := hD
    simp only [hf9, if_true] at *
    obtain ⟨q, rfl⟩ := h2 (by first | rfl | trivial)
    try clear hall
    clear h2
    have y4 := y2 (.cells #[.int .i64 fn, .int .i64 fd] 23) (.int .i64 (t / (Int.gcd t fd : Int) * fd))
    have y5 := y3 (.cells #[.int .i64 fn, .int .i64 fd] 23) (.int .i64 (t / (Int.gcd t fd : Int) * fd))
    have x1 := Lib.hid ((below_drewN (I1.out.alloc I1.out.size (.cells #[.int .i64 fn, .int .i64 fd] 23)) q).setCell (p := ⟨tb, 0, none⟩) ht (.int .i64 (t / (Int.gcd t fd : Int) * fd)))
    have y6 : (w.alloc (.cells #[.int .i64 fn, .int .i64 fd] 23)).frozen? ⟨lb, 0, none⟩ = false := (I2.out.alloc _).frozen 0
    go_wp2
    go_end0
    refine ⟨rfl, ?_, ?_⟩
    · refine ⟨x1.out.setCell (p := ⟨lb, 0, none⟩) hl _, (((I2.out.alloc _).far (p := ⟨tb, 0, none⟩) (by show lb ≠ tb; omega) _)).set_ 0 _, ((((I3.out.alloc _)).set_ 0 _).far (p := ⟨lb, 0, none⟩) (by show tb ≠ lb; omega) _), hb.1, hb.2, fun h => ?_⟩
      have : decide (1000000000 < t / (Int.gcd t fd : Int) * fd) = false := h
      have := of_decide_eq_false this
      show t / (Int.gcd t fd : Int) * fd ≤ _
      omega
    · refine ⟨by simp [World.setCell], fun k hk1 hk2 => ?_⟩
      have n1 : k ≠ lb := by omega
      have n2 : k ≠ tb := by omega
      rw [Below.heap_setCell _ ⟨lb, 0, none⟩ _ _ n1, Below.heap_setCell _ ⟨tb, 0, none⟩ _ _ n2]
      exact Below.heap_alloc _ _ _ hk2

theorem returns1_each (w0 : World) (lb tb B : Nat) (hl : w0.heap.size ≤ lb) (ht : w0.heap.size ≤ tb) (hlt : lb ≠ tb) (hlB : lb < B) (htB : tb < B) :
    Each B 76 #[.pointer (some ⟨lb, 0, none⟩), .pointer (some ⟨tb, 0, none⟩)] (InvR w0 lb tb) stepR where
  ent := fun _ _ => by kernel_rfl
  call := fun s w f hB hi p1 p2 => returns1_any w0 lb tb B hl ht hlt hlB htB s w f hB hi p1 p2
  keep := fun s w w' hi hb => ⟨hi.low.trans (hb.mono (by omega)), hi.large.below hb hlB, hi.turns.below hb htB, hi.pos, hi.most, hi.small⟩

def trainR (l : List (Int × Int)) : (Int × Bool) × Bool := trainF stepR (stepR (1, false) (1, 1)) (1, 1) l
/-- When all axes are back, or an error. -/
def returnsF (l : List (Int × Int)) : Int × Int := if trainErr l ≠ 0 then (0, trainErr l) else if (trainR l).2 = false ∨ (trainR l).1.2 = true then (0, 8) else ((trainR l).1.1, 0)

theorem trainErr_ok {l : List (Int × Int)} (h : trainErr l = 0) : l.length ≤ 12 ∧ l.all okP = true := by
  unfold trainErr at h
  split at h
  · exact absurd h (by decide)
  · split at h
    · exact ⟨by omega, by assumption⟩
    · exact absurd h (by decide)

def ReturnsPost (l : List (Int × Int)) (w : World) (e : Ending) (w' : World) : Prop := e = .returned (.tuple #[.int .i64 (returnsF l).1, .int .i64 (returnsF l).2]) ∧ Below w.heap.size w w'

set_option maxHeartbeats 1000000 in
theorem returns_any (A : Option Addr) (n c N : Nat) (l : List (Int × Int)) (w : World) (hx : Reads w N 2 A n (cells2 l)) (hN : N ≤ w.heap.size) (hn : n ≤ 9223372036854775807) :
    Calls Try.prog 24 #[.slice A n c] w (ReturnsPost l w) := by
  have HX := Lib.hid hx
  clear hx
  by_cases h0 : trainErr l = 0
  · obtain ⟨hlen, hok⟩ := trainErr_ok h0
    have hF : returnsF l = if (trainR l).2 = false ∨ (trainR l).1.2 = true then (0, 8) else ((trainR l).1.1, 0) := by unfold returnsF; rw [if_neg (by rw [h0]; simp)]
    have HF := Lib.hid hF
    have H0 := Lib.hid h0
    have HOK := Lib.hid hok
    clear hF hok
    go_enter Try.func24, Try.ntmps24
    go_wp2_with (first | (go_at_call 26; refine (checktrain_is A n c N l 0 H0.out _ HX.out hN hn).mono ?_; rintro e w1 ⟨rfl, hb⟩))
    have hz1 := hb.size
    have hrd := HX.out.belowLe hb hN
    have HB := Lib.hid hb
    have HRD := Lib.hid hrd
    clear hb hrd
    obtain ⟨⟨⟨t, lg⟩, ok⟩, htr⟩ : ∃ r, trainR l = r := ⟨_, rfl⟩
    have HTR := Lib.hid htr
    clear htr
    refine (train_is (w1.heap.size + 2) 76 #[.pointer (some ⟨w1.heap.size + 1, 0, none⟩), .pointer (some ⟨w1.heap.size, 0, none⟩)] (InvR w1 (w1.heap.size + 1) w1.heap.size) stepR (returns1_each w1 _ _ _ (by omega) (by omega) (by omega) (by omega) (by omega)) A n c N l _ (1, false) (t, lg) ok HTR.out (by simp) (by omega) (fun s w' hi => HRD.out.belowLe hi.low (by omega)) ⟨((Below.refl _ _).alloc (Nat.le_refl _) _).alloc (by simp) _, Blk.at_ _ (by simp) _ _, (Blk.new _ _ _).alloc _, by decide, by decide, fun _ => by decide⟩ hn HOK.out).mono ?_
    rintro e w2 ⟨rfl, hi⟩
    have y0 : w2.cell? ⟨w1.heap.size + 1, 0, none⟩ = some (.bool lg) := hi.large.cell 0
    have y1 : w2.cell? ⟨w1.heap.size, 0, none⟩ = some (.int .i64 t) := hi.turns.cell 0
    have hbb := HB.out.trans (hi.low.mono hz1)
    have HBB := Lib.hid hbb
    clear hi hbb
    cases ok with
    | false =>
      go_wp2
      go_ret2
      exact ⟨by rw [HF.out, HTR.out]; rfl, HBB.out⟩
    | true =>
      cases lg with
      | false =>
        go_wp2
        go_ret2
        exact ⟨by rw [HF.out, HTR.out]; rfl, HBB.out⟩
      | true =>
        go_wp2
        go_ret2
        exact ⟨by rw [HF.out, HTR.out]; rfl, HBB.out⟩
  · have hF : returnsF l = (0, trainErr l) := by unfold returnsF; rw [if_pos h0]
    have hne : (trainErr l != 0) = true := by simpa using h0
    have HF := Lib.hid hF
    clear hF h0
    go_enter Try.func24, Try.ntmps24
    go_wp2_with (first | (go_at_call 26; refine (checktrain_any A n c N l _ HX.out hN hn).mono ?_; rintro e w1 ⟨rfl, hb⟩))
    go_ret2
    exact ⟨by rw [HF.out]; rfl, hb⟩

end Go.Proofs.Ytmioamcgbihhjaa

end

section
/- The class of worlds of a region whose order is left open and which makes a struct of two cells and stores into it. -/
namespace Go.Proofs.Ytmioamcgbihhjaa
open Go.RowKit

/-- All that was there is as it was; the new block x, once it is made, holds two cells: v0 and v1 when operation s (the store) has come. -/
def MkD (T : TypeId) (v0 v1 : Value) (s : Nat) (W : World) (g : Option Nat) (f : Nat → Bool) (w' : World) : Prop :=
  Below W.heap.size W w' ∧ ∀ x, g = some x → W.heap.size ≤ x ∧ ∃ e0 e1, Blk w' x T #[e0, e1] ∧ (f s = true → e0 = v0 ∧ e1 = v1)

section
variable {T : TypeId} {v0 v1 : Value} {s : Nat} {W w' w'' : World} {g : Option Nat} {f : Nat → Bool} {x k : Nat}
theorem add_ne (hk : k ≠ s) : Fx.add f k s = f s := by
  unfold Fx.add
  cases h : s.beq k with
  | false => simp
  | true => exact absurd (Nat.eq_of_beq_eq_true h).symm hk
theorem MkD.start (h : Below W.heap.size W w') : MkD T v0 v1 s W none f w' := ⟨h, fun x h => by cases h⟩
theorem MkD.step (h : MkD T v0 v1 s W g f w') (hb : Below w'.heap.size w' w'') (hk : k ≠ s) : MkD T v0 v1 s W g (Fx.add f k) w'' := by
  refine ⟨h.1.trans (hb.mono h.1.size), fun x hx => ?_⟩
  obtain ⟨h1, e0, e1, h2, h3⟩ := h.2 x hx
  exact ⟨h1, e0, e1, h2.below hb h2.lt, fun h => h3 (by rwa [add_ne hk] at h)⟩
theorem MkD.make {a b : Value} (h : MkD T v0 v1 s W none f w') (hs : f s = false) (hk : k ≠ s) : MkD T v0 v1 s W (some w'.heap.size) (Fx.add f k) (w'.alloc (.cells #[a, b] T)) := by
  refine ⟨h.1.alloc h.1.size _, fun x hx => ?_⟩
  cases hx
  refine ⟨h.1.size, a, b, Blk.new _ _ _, fun h => ?_⟩
  rw [add_ne hk, hs] at h
  cases h
theorem MkD.store (h : MkD T v0 v1 s W (some x) f w') : MkD T v0 v1 s W (some x) (Fx.add f s) ((w'.setCell ⟨x, 0, none⟩ v0).setCell ⟨x, 1, none⟩ v1) := by
  obtain ⟨h1, e0, e1, h2, -⟩ := h.2 x rfl
  refine ⟨(h.1.setCell (p := ⟨x, 0, none⟩) h1 _).setCell (p := ⟨x, 1, none⟩) h1 _, fun y hy => ?_⟩
  cases hy
  refine ⟨h1, v0, v1, ?_, fun _ => ⟨rfl, rfl⟩⟩
  have := (h2.set_ 0 v0).set_ 1 v1
  simpa using this
theorem MkD.cells (h : MkD T v0 v1 s W (some x) f w') : ∃ e0 e1, w'.cell? ⟨x, 0, none⟩ = some e0 ∧ w'.cell? ⟨x, 1, none⟩ = some e1 ∧ w'.frozen? ⟨x, 0, none⟩ = false ∧ w'.frozen? ⟨x, 1, none⟩ = false := by
  obtain ⟨h1, e0, e1, h2, -⟩ := h.2 x rfl
  exact ⟨e0, e1, h2.cell 0, h2.cell 1, h2.frozen 0, h2.frozen 1⟩
end

/-- A block g of two cells is stored into, each cell once (operations s0, s1); all below g is as it was. -/
def UpD (T : TypeId) (g : Nat) (r0 r1 m0 m1 : Value) (s0 s1 : Nat) (W : World) (f : Nat → Bool) (w' : World) : Prop :=
  Below g W w' ∧ ∃ e0 e1, Blk w' g T #[e0, e1] ∧ (f s0 = false → e0 = r0) ∧ (f s0 = true → e0 = m0) ∧ (f s1 = false → e1 = r1) ∧ (f s1 = true → e1 = m1)
section
variable {T : TypeId} {g : Nat} {r0 r1 m0 m1 : Value} {s0 s1 k : Nat} {W w' w'' : World} {f : Nat → Bool}
theorem add_eq : Fx.add f k k = true := by
  unfold Fx.add
  rw [show Nat.beq k k = true from Nat.beq_refl k]
  rfl
theorem UpD.start (h : Below g W w') (hg : Blk w' g T #[r0, r1]) (h0 : f s0 = false) (h1 : f s1 = false) : UpD T g r0 r1 m0 m1 s0 s1 W f w' :=
  ⟨h, r0, r1, hg, fun _ => rfl, fun e => (by rw [h0] at e; cases e), fun _ => rfl, fun e => (by rw [h1] at e; cases e)⟩
theorem UpD.same (h : UpD T g r0 r1 m0 m1 s0 s1 W f w') (k0 : k ≠ s0) (k1 : k ≠ s1) : UpD T g r0 r1 m0 m1 s0 s1 W (Fx.add f k) w' := by
  obtain ⟨h1, e0, e1, h2, a, b, c, d⟩ := h
  refine ⟨h1, e0, e1, h2, ?_, ?_, ?_, ?_⟩
  · rw [add_ne k0]; exact a
  · rw [add_ne k0]; exact b
  · rw [add_ne k1]; exact c
  · rw [add_ne k1]; exact d
theorem UpD.store0 (h : UpD T g r0 r1 m0 m1 s0 s1 W f w') (hne : s0 ≠ s1) : UpD T g r0 r1 m0 m1 s0 s1 W (Fx.add f s0) (w'.setCell ⟨g, 0, none⟩ m0) := by
  obtain ⟨h1, e0, e1, h2, a, b, c, d⟩ := h
  refine ⟨h1.setCell (p := ⟨g, 0, none⟩) (Nat.le_refl _) _, m0, e1, by simpa using h2.set_ 0 m0, fun e => ?_, fun _ => rfl, ?_, ?_⟩
  · rw [add_eq] at e; cases e
  · rw [add_ne hne]; exact c
  · rw [add_ne hne]; exact d
theorem UpD.store1 (h : UpD T g r0 r1 m0 m1 s0 s1 W f w') (hne : s0 ≠ s1) : UpD T g r0 r1 m0 m1 s0 s1 W (Fx.add f s1) (w'.setCell ⟨g, 1, none⟩ m1) := by
  obtain ⟨h1, e0, e1, h2, a, b, c, d⟩ := h
  refine ⟨h1.setCell (p := ⟨g, 1, none⟩) (Nat.le_refl _) _, e0, m1, by simpa using h2.set_ 1 m1, ?_, ?_, fun e => ?_, fun _ => rfl⟩
  · rw [add_ne (Ne.symm hne)]; exact a
  · rw [add_ne (Ne.symm hne)]; exact b
  · rw [add_eq] at e; cases e
theorem UpD.read0 (h : UpD T g r0 r1 m0 m1 s0 s1 W f w') (h0 : f s0 = false) : w'.cell? ⟨g, 0, none⟩ = some r0 ∧ w'.frozen? ⟨g, 0, none⟩ = false := by
  obtain ⟨h1, e0, e1, h2, a, b, c, d⟩ := h
  exact ⟨a h0 ▸ h2.cell 0, h2.frozen 0⟩
theorem UpD.read1 (h : UpD T g r0 r1 m0 m1 s0 s1 W f w') (h0 : f s1 = false) : w'.cell? ⟨g, 1, none⟩ = some r1 ∧ w'.frozen? ⟨g, 1, none⟩ = false := by
  obtain ⟨h1, e0, e1, h2, a, b, c, d⟩ := h
  exact ⟨c h0 ▸ h2.cell 1, h2.frozen 1⟩
/-- Only cell 1 is stored into. -/
theorem UpD.end1 (h : UpD T g r0 r1 r0 m1 s0 s1 W f w') (h1 : f s1 = true) : Below g W w' ∧ Blk w' g T #[r0, m1] := by
  obtain ⟨h1', e0, e1, h2, a, b, c, d⟩ := h
  have e : e0 = r0 := by
    cases hf : f s0 with
    | false => exact a hf
    | true => exact b hf
  exact ⟨h1', e ▸ d h1 ▸ h2⟩
/-- Only cell 0 is stored into. -/
theorem UpD.end0 (h : UpD T g r0 r1 m0 r1 s0 s1 W f w') (h1 : f s0 = true) : Below g W w' ∧ Blk w' g T #[m0, r1] := by
  obtain ⟨h1', e0, e1, h2, a, b, c, d⟩ := h
  have e : e1 = r1 := by
    cases hf : f s1 with
    | false => exact c hf
    | true => exact d hf
  exact ⟨h1', b h1 ▸ e ▸ h2⟩
theorem UpD.start' (h : Below g W w') (hg : Blk w' g T #[r0, r1]) (h0 : f s0 = false) (h1 : f s1 = false) : UpD T g r0 r1 m0 m1 s0 s1 W f w' := UpD.start h hg h0 h1
theorem UpD.end_ (h : UpD T g r0 r1 m0 m1 s0 s1 W f w') (h0 : f s0 = true) (h1 : f s1 = true) : Below g W w' ∧ Blk w' g T #[m0, m1] := by
  obtain ⟨h1', e0, e1, h2, a, b, c, d⟩ := h
  exact ⟨h1', b h0 ▸ d h1 ▸ h2⟩
end

end Go.Proofs.Ytmioamcgbihhjaa

end
