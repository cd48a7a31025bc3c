/- The contracts of Ratio and MeetAgain, of the program and of the reference, and of the reference's Returns. -/
import Derived.Test.YtmioamcgbihhjaaRTrain
namespace Go.Proofs.Ytmioamcgbihhjaa
open Go.RowKit

def lastF (L : List (Int × Int)) (s : Int × Int) : Int × Int := L.foldl (fun _ f => f) s
theorem last_get : ∀ (L : List (Int × Int)) (s : Int × Int) (n : Nat), L.length = n + 1 → L[n]? = some (lastF L s)
  | [a], s, n, h => by
    have : n = 0 := by simpa using h.symm
    subst this
    rfl
  | a :: b :: t, s, n, h => by
    obtain ⟨m, rfl⟩ : ∃ m, n = m + 1 := ⟨n - 1, by simp at h; omega⟩
    have := last_get (b :: t) a m (by simpa using h)
    simpa [lastF] using this
  | [], s, n, h => by simp at h

/-- What Ratio answers. -/
def ratioF (l : List (Int × Int)) : (Int × Int) × Int :=
  if trainErr l ≠ 0 then ((0, 0), trainErr l) else if (begF (1, 1) l).2 = false then ((0, 0), 8) else (lastF (begF (1, 1) l).1 (0, 0), 0)

/-- What the function value of Ratio finds: its variable, and all below it as it was. -/
structure InvL (w0 : World) (ob : Nat) (s : Int × Int) (w : World) : Prop where
  low : Below w0.heap.size w0 w
  out : Blk w ob 23 #[.int .i64 s.1, .int .i64 s.2]

set_option maxRecDepth 100000 in
theorem ratio1_any (w0 : World) (ob B : Nat) (hl : w0.heap.size ≤ ob) (hlB : ob < B) (s : Int × Int) (w : World) (f : Int × Int) (hB : B ≤ w.heap.size) (hi : InvL w0 ob s w) :
    Calls Try.prog 75 #[.agg #[.int .i64 f.1, .int .i64 f.2], .pointer (some ⟨ob, 0, none⟩)] w fun e w' => e = .returned (.tuple #[]) ∧ InvL w0 ob f w' ∧ Keeps B w w' := by
  obtain ⟨s1, s2⟩ := s
  obtain ⟨fn, fd⟩ := f
  obtain ⟨i1, i2⟩ := hi
  have y0 : ∀ o, (w.alloc o).cell? ⟨ob, 0, none⟩ = some (.int .i64 s1) := fun o => (i2.alloc o).cell 0
  have y1 : ∀ o, (w.alloc o).cell? ⟨ob, 1, none⟩ = some (.int .i64 s2) := fun o => (i2.alloc o).cell 1
  have y2 : ∀ o, (w.alloc o).frozen? ⟨ob, 0, none⟩ = false := fun o => (i2.alloc o).frozen 0
  have y3 : ∀ o, (w.alloc o).frozen? ⟨ob, 1, none⟩ = false := fun o => (i2.alloc o).frozen 1
  have I1 := Lib.hid i1
  have I2 := Lib.hid i2
  clear i1 i2
  have y4 := y0 (.cells #[.int .i64 fn, .int .i64 fd] 23)
  have y5 := y1 (.cells #[.int .i64 fn, .int .i64 fd] 23)
  have y6 := y2 (.cells #[.int .i64 fn, .int .i64 fd] 23)
  have y7 := y3 (.cells #[.int .i64 fn, .int .i64 fd] 23)
  clear y0 y1 y2 y3
  go_enter Try.func75, Try.ntmps75
  go_wp2
  go_end0
  refine ⟨rfl, ⟨((I1.out.alloc I1.out.size _).setCell (p := ⟨ob, 0, none⟩) hl _).setCell (p := ⟨ob, 1, none⟩) hl _, ?_⟩, by simp [World.setCell], fun k hk1 hk2 => ?_⟩
  · have := ((I2.out.alloc (.cells #[.int .i64 fn, .int .i64 fd] 23)).set_ 0 (.int .i64 fn)).set_ 1 (.int .i64 fd)
    simpa using this
  · have n1 : k ≠ ob := by omega
    rw [Below.heap_setCell _ ⟨ob, 1, none⟩ _ _ n1, Below.heap_setCell _ ⟨ob, 0, none⟩ _ _ n1]
    exact Below.heap_alloc _ _ _ hk2

theorem ratio1_each (w0 : World) (ob B : Nat) (hl : w0.heap.size ≤ ob) (hlB : ob < B) :
    Each B 75 #[.pointer (some ⟨ob, 0, none⟩)] (InvL w0 ob) (fun _ f => f) where
  ent := fun _ _ => by kernel_rfl
  call := fun s w f hB hi _ _ => ratio1_any w0 ob B hl hlB s w f hB hi
  keep := fun s w w' hi hb => ⟨hi.low.trans (hb.mono (by omega)), hi.out.below hb hlB⟩

set_option maxRecDepth 100000 in
set_option maxHeartbeats 1000000 in
theorem ratio_any (A : Option Addr) (n c N : Nat) (l : List (Int × Int)) (w : World) (hx : Reads w N 2 A n (cells2 l)) (hN : N ≤ w.heap.size) (hn : n ≤ 9223372036854775807) :
    Calls Try.prog 22 #[.slice A n c] w fun e w' => e = .returned (.tuple #[.agg #[.int .i64 (ratioF l).1.1, .int .i64 (ratioF l).1.2], .int .i64 (ratioF l).2]) ∧ Below w.heap.size w w' := by
  have HX := Lib.hid hx
  clear hx
  obtain ⟨R, hR⟩ : ∃ R, ratioF l = R := ⟨_, rfl⟩
  rw [hR]
  obtain ⟨⟨x, y⟩, e⟩ := R
  by_cases h0 : trainErr l = 0
  · obtain ⟨hlen, hok⟩ := trainErr_ok h0
    have hF : (if (begF (1, 1) l).2 = false then ((0, 0), 8) else (lastF (begF (1, 1) l).1 (0, 0), 0)) = ((x, y), e) := by
      rw [← hR]
      unfold ratioF
      rw [if_neg (show ¬ trainErr l ≠ 0 by rw [h0]; simp)]
    obtain ⟨⟨L, ok⟩, hB⟩ : ∃ r, begF (1, 1) l = r := ⟨_, rfl⟩
    rw [hB] at hF
    have htr : trainF (fun _ f => f) ((fun _ f => f) ((0, 0) : Int × Int) ((1, 1) : Int × Int)) (1, 1) l = (lastF L (0, 0), ok) := by rw [trainF_beg (fun _ f => f) l (0, 0) (1, 1), hB]; rfl
    obtain ⟨t, ht⟩ : ∃ t, lastF L (0, 0) = t := ⟨_, rfl⟩
    rw [ht] at htr hF
    have HF := Lib.hid hF
    have H0 := Lib.hid h0
    have HOK := Lib.hid hok
    have HTR := Lib.hid htr
    clear hF hok hR htr hB h0 ht
    go_enter Try.func22, Try.ntmps22
    go_wp2_with fail
    refine (checktrain_is A n c N l 0 H0.out _ (HX.out.belowLe (by first | exact Below.refl _ _ | exact (Below.refl _ _).alloc (Nat.le_refl _) _) hN) (by simp; omega) hn).mono ?_
    rintro e w1 ⟨rfl, hb⟩
    have HB1 := Lib.hid (show Below w.heap.size w w1 from step_below hb (by repeat' (first | exact Below.refl _ _ | exact HB0.out | assumption | refine below_drewN ?_ _ | refine Below.drew ?_ | refine Below.alloc ?_ (by first | omega | (simp; done) | (simp; omega) | (simp [World.setCell]; omega)) _ | refine Below.setCell ?_ (by first | omega | (simp; done) | (simp; omega)) _)))
    have K0_1 := Lib.hid (step_blk hb (show Blk _ (w.heap.size) 23 #[.int .i64 (0), .int .i64 (0)] by repeat' (first | assumption | exact Blk.at_ _ (by first | rfl | (simp; done) | (simp; omega)) _ _ | refine Blk.drewN ?_ _ | refine Blk.drew ?_ | refine Blk.alloc ?_ _ | refine Blk.far ?_ (by first | omega | (simp; done) | (simp; omega)) _)))
    have hz1 := hb.size
    try simp only [World.size_alloc, World.drewN, World.drew] at hz1
    clear hb
    have l0_1 : w.heap.size < w1.heap.size := K0_1.out.lt
    have z0_0_1 : w1.cell? ⟨w.heap.size, 0, none⟩ = some (.int .i64 (0)) := K0_1.out.cell 0
    have z0_1_1 : w1.cell? ⟨w.heap.size, 1, none⟩ = some (.int .i64 (0)) := K0_1.out.cell 1
    have hrd := HX.out.belowLe HB1.out hN
    have HRD := Lib.hid hrd
    clear hrd
    go_wp2_with fail
    refine (train_is (w1.heap.size + 1) 75 #[.pointer (some ⟨w1.heap.size, 0, none⟩)] (InvL w1 w1.heap.size) (fun _ f => f) (ratio1_each w1 _ _ (by omega) (by omega)) A n c N l _ (0, 0) t ok HTR.out (by simp) (by omega) (fun s w' hi => HRD.out.belowLe hi.low (by omega)) ⟨(Below.refl _ _).alloc (Nat.le_refl _) _, Blk.new _ _ _⟩ hn HOK.out).mono ?_
    rintro e w2 ⟨rfl, hi⟩
    have hb := hi.low
    have hout := hi.out
    have hz2 := hb.size
    have hbb := HB1.out.trans (hb.mono (by omega))
    have hk0 := K0_1.out.below hb K0_1.out.lt
    clear hi z0_0_1 z0_1_1
    have d0 := hout.cell 0
    have d1 := hout.cell 1
    have ld := hout.lt
    have HB2 := Lib.hid hbb
    have K0_2 := Lib.hid (show Blk w2 (w.heap.size) 23 #[.int .i64 (0), .int .i64 (0)] from hk0)
    have K1_2 := Lib.hid (show Blk w2 (w1.heap.size) 23 #[.int .i64 (t.1), .int .i64 (t.2)] from hout)
    clear hbb hk0 hout
    have l0_2 : w.heap.size < w2.heap.size := K0_2.out.lt
    have z0_0_2 : w2.cell? ⟨w.heap.size, 0, none⟩ = some (.int .i64 (0)) := K0_2.out.cell 0
    have z0_1_2 : w2.cell? ⟨w.heap.size, 1, none⟩ = some (.int .i64 (0)) := K0_2.out.cell 1
    have l1_2 : w1.heap.size < w2.heap.size := K1_2.out.lt
    have z1_0_2 : w2.cell? ⟨w1.heap.size, 0, none⟩ = some (.int .i64 (t.1)) := K1_2.out.cell 0
    have z1_1_2 : w2.cell? ⟨w1.heap.size, 1, none⟩ = some (.int .i64 (t.2)) := K1_2.out.cell 1
    have zf0_0 := K0_2.out.frozen 0
    have zf0_1 := K0_2.out.frozen 1
    cases ok with
    | false =>
      have hF := HF.out
      rw [if_pos rfl] at hF
      cases hF
      go_wp2
      exact bodyPost_ret (v := .tuple #[.agg #[.int .i64 0, .int .i64 0], .int .i64 8]) (by simp [results, Try.results22, go_sem, z0_0_2, z0_1_2, l0_2]) rfl ⟨rfl, by repeat' (first | exact Below.refl _ _ | exact HB2.out | assumption | refine below_drewN ?_ _ | refine Below.drew ?_ | refine Below.alloc ?_ (by first | omega | (simp; done) | (simp; omega) | (simp [World.setCell]; omega)) _ | refine Below.setCell ?_ (by first | omega | (simp; done) | (simp; omega)) _)⟩
    | true =>
      have hF := HF.out
      rw [if_neg (by simp)] at hF
      cases hF
      go_wp2
      exact bodyPost_ret (v := .tuple #[.agg #[.int .i64 x, .int .i64 y], .int .i64 0]) (by simp [results, Try.results22, go_sem, z0_0_2, z0_1_2, z1_0_2, z1_1_2, l0_2, l1_2]) rfl ⟨rfl, by repeat' (first | exact Below.refl _ _ | exact HB2.out | assumption | refine below_drewN ?_ _ | refine Below.drew ?_ | refine Below.alloc ?_ (by first | omega | (simp; done) | (simp; omega) | (simp [World.setCell]; omega)) _ | refine Below.setCell ?_ (by first | omega | (simp; done) | (simp; omega)) _)⟩
  · have hF : ((0, 0), trainErr l) = ((x, y), e) := by rw [← hR]; unfold ratioF; rw [if_pos h0]
    obtain ⟨T, hT⟩ : ∃ T, trainErr l = T := ⟨_, rfl⟩
    rw [hT] at hF h0
    have hne : (T != 0) = true := by simpa using h0
    cases hF
    have HT := Lib.hid hT
    clear hT hR h0
    go_enter Try.func22, Try.ntmps22
    go_wp2_with fail
    refine (checktrain_is A n c N l _ HT.out _ (HX.out.belowLe (by first | exact Below.refl _ _ | exact (Below.refl _ _).alloc (Nat.le_refl _) _) hN) (by simp; omega) hn).mono ?_
    rintro e w1 ⟨rfl, hb⟩
    have HB1 := Lib.hid (show Below w.heap.size w w1 from step_below hb (by repeat' (first | exact Below.refl _ _ | exact HB0.out | assumption | refine below_drewN ?_ _ | refine Below.drew ?_ | refine Below.alloc ?_ (by first | omega | (simp; done) | (simp; omega) | (simp [World.setCell]; omega)) _ | refine Below.setCell ?_ (by first | omega | (simp; done) | (simp; omega)) _)))
    have K0_1 := Lib.hid (step_blk hb (show Blk _ (w.heap.size) 23 #[.int .i64 (0), .int .i64 (0)] by repeat' (first | assumption | exact Blk.at_ _ (by first | rfl | (simp; done) | (simp; omega)) _ _ | refine Blk.drewN ?_ _ | refine Blk.drew ?_ | refine Blk.alloc ?_ _ | refine Blk.far ?_ (by first | omega | (simp; done) | (simp; omega)) _)))
    have hz1 := hb.size
    try simp only [World.size_alloc, World.drewN, World.drew] at hz1
    clear hb
    have l0_1 : w.heap.size < w1.heap.size := K0_1.out.lt
    have z0_0_1 : w1.cell? ⟨w.heap.size, 0, none⟩ = some (.int .i64 (0)) := K0_1.out.cell 0
    have z0_1_1 : w1.cell? ⟨w.heap.size, 1, none⟩ = some (.int .i64 (0)) := K0_1.out.cell 1
    have zf0_0 := K0_1.out.frozen 0
    have zf0_1 := K0_1.out.frozen 1
    go_wp2
    exact bodyPost_ret (v := .tuple #[.agg #[.int .i64 0, .int .i64 0], .int .i64 e]) (by simp [results, Try.results22, go_sem, z0_0_1, z0_1_1, l0_1]) rfl ⟨rfl, by repeat' (first | exact Below.refl _ _ | exact HB1.out | assumption | refine below_drewN ?_ _ | refine Below.drew ?_ | refine Below.alloc ?_ (by first | omega | (simp; done) | (simp; omega) | (simp [World.setCell]; omega)) _ | refine Below.setCell ?_ (by first | omega | (simp; done) | (simp; omega)) _)⟩

theorem ratio_is (A : Option Addr) (n c N : Nat) (l : List (Int × Int)) (x y e : Int) (h : ratioF l = ((x, y), e)) (w : World) (hx : Reads w N 2 A n (cells2 l)) (hN : N ≤ w.heap.size) (hn : n ≤ 9223372036854775807) :
    Calls Try.prog 22 #[.slice A n c] w fun en w' => en = .returned (.tuple #[.agg #[.int .i64 x, .int .i64 y], .int .i64 e]) ∧ Below w.heap.size w w' := by
  have := ratio_any A n c N l w hx hN hn
  rw [h] at this
  exact this

set_option maxRecDepth 100000 in
theorem rratio_any (A : Option Addr) (n c N : Nat) (l : List (Int × Int)) (h0 : trainErr l = 0) (x y e : Int) (h : ratioF l = ((x, y), e)) (w : World) (hx : Reads w N 2 A n (cells2 l)) (hN : N ≤ w.heap.size) :
    Calls Try.prog 29 #[.slice A n c] w fun en w' => en = .returned (.tuple #[.agg #[.int .i64 x, .int .i64 y], .int .i64 e]) ∧ Below w.heap.size w w' := by
  obtain ⟨hlen, hok⟩ := trainErr_ok h0
  have hxl := hx.len2
  have HXL := Lib.hid hxl
  have hn12 : n ≤ 12 := by omega
  unfold ratioF at h
  rw [if_neg (show ¬ trainErr l ≠ 0 by rw [h0]; simp)] at h
  have HX := Lib.hid hx
  have HH := Lib.hid h
  have HBG := Lib.hid (begin_any A n c N l)
  have HOK := Lib.hid hok
  clear hx h h0 hok hxl
  go_enter Try.func29, Try.ntmps29
  go_wp2_with fail
  refine (HBG.out _ (HX.out.belowLe ((Below.refl _ _).alloc (Nat.le_refl _) _) hN) (by simp; omega) hn12 HOK.out).mono ?_
  rintro en w1 ⟨hb, hyes, hno⟩
  have HYES := Lib.hid hyes
  have HNO := Lib.hid hno
  clear hyes hno
  have HB1 := Lib.hid (show Below w.heap.size w w1 from step_below hb (by repeat' (first | exact Below.refl _ _ | exact HB0.out | assumption | refine below_drewN ?_ _ | refine Below.drew ?_ | refine Below.alloc ?_ (by first | omega | (simp; done) | (simp; omega) | (simp [World.setCell]; omega)) _ | refine Below.setCell ?_ (by first | omega | (simp; done) | (simp; omega)) _)))
  have K0_1 := Lib.hid (step_blk hb (show Blk _ (w.heap.size) 23 #[.int .i64 (0), .int .i64 (0)] by repeat' (first | assumption | exact Blk.at_ _ (by first | rfl | (simp; done) | (simp; omega)) _ _ | refine Blk.drewN ?_ _ | refine Blk.drew ?_ | refine Blk.alloc ?_ _ | refine Blk.far ?_ (by first | omega | (simp; done) | (simp; omega)) _)))
  have hz1 := hb.size
  try simp only [World.size_alloc, World.drewN, World.drew] at hz1
  clear hb
  have l0_1 : w.heap.size < w1.heap.size := K0_1.out.lt
  have z0_0_1 : w1.cell? ⟨w.heap.size, 0, none⟩ = some (.int .i64 (0)) := K0_1.out.cell 0
  have z0_1_1 : w1.cell? ⟨w.heap.size, 1, none⟩ = some (.int .i64 (0)) := K0_1.out.cell 1
  cases hB : (begF (1, 1) l).2 with
  | false =>
    obtain rfl := HNO.out hB
    have hF := HH.out
    rw [if_pos hB] at hF
    cases hF
    clear hB
    have zf0_0 := K0_1.out.frozen 0
    have zf0_1 := K0_1.out.frozen 1
    go_wp2
    exact bodyPost_ret (v := .tuple #[.agg #[.int .i64 0, .int .i64 0], .int .i64 8]) (by simp [results, Try.results29, go_sem, z0_0_1, z0_1_1, l0_1]) rfl ⟨rfl, by repeat' (first | exact Below.refl _ _ | exact HB1.out | assumption | refine below_drewN ?_ _ | refine Below.drew ?_ | refine Below.alloc ?_ (by first | omega | (simp; done) | (simp; omega) | (simp [World.setCell]; omega)) _ | refine Below.setCell ?_ (by first | omega | (simp; done) | (simp; omega)) _)⟩
  | true =>
    obtain ⟨AO, CO, rfl, hro⟩ := HYES.out hB
    have hF := HH.out
    rw [if_neg (by rw [hB]; simp)] at hF
    have hl := begF_len l (1, 1) hB
    obtain ⟨ob, oo, p, rfl, hob, hp, d0, d1⟩ := hro.pair (show l.length < l.length + 1 by omega)
    rw [last_get _ (0, 0) _ hl] at hp
    cases hp
    have e1 := congrArg (fun q => q.1.1) hF
    have e2 := congrArg (fun q => q.1.2) hF
    have e3 := congrArg (fun q => q.2) hF
    simp only at e1 e2 e3
    rw [e1] at d0
    rw [e2] at d1
    subst e3
    rw [HXL.out] at d0 d1
    have v1 : IntKind.i64.wrap (n : Int) = (n : Int) := IntWalk.i64_in (n : Int) ⟨by omega, by omega⟩
    have v2 : (0 : Int) ≤ (n : Int) := by omega
    have v3 : (n : Int) < (n : Int) + 1 := by omega
    rw [HXL.out]
    clear hB hF hl hro e1 e2
    have zf0_0 := K0_1.out.frozen 0
    have zf0_1 := K0_1.out.frozen 1
    go_wp2
    exact bodyPost_ret (v := .tuple #[.agg #[.int .i64 x, .int .i64 y], .int .i64 0]) (by simp [results, Try.results29, go_sem, z0_0_1, z0_1_1, l0_1]) rfl ⟨rfl, by repeat' (first | exact Below.refl _ _ | exact HB1.out | assumption | refine below_drewN ?_ _ | refine Below.drew ?_ | refine Below.alloc ?_ (by first | omega | (simp; done) | (simp; omega) | (simp [World.setCell]; omega)) _ | refine Below.setCell ?_ (by first | omega | (simp; done) | (simp; omega)) _)⟩

end Go.Proofs.Ytmioamcgbihhjaa
