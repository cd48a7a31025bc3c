import Derived.Test.YtdidcpealabaiaaQ17

section
/- Contracts of models of pointing, of the reference; products of terms and shapes on both sides. -/
namespace Go.Proofs.Ytdidcpealabaiaa
open Go Go.RowKit

set_option maxRecDepth 100000 in
set_option maxHeartbeats 1000000 in
theorem rmodel_is (A : Option Addr) (n c : Nat) (T : List Int) (D E : Int) (hE : mdlErr T D = E) (w : World) (hx : Reads w w.heap.size 1 A n (T.map (.int .i64))) (hn : n ≤ 9223372036854775807) :
    Calls Try.prog 85 #[.agg #[.slice A n c, .int .i64 D]] w fun e w' => e = .returned (.int .i64 E) ∧ Below w.heap.size w w' := by
  have hl := hx.ilen
  have HX := Lib.hid hx
  have HL := Lib.hid hl
  clear hx
  cases h1 : withinB (n : Int) 1 3
  · obtain rfl : E = 10 := by rw [← hE]; unfold mdlErr; rw [if_pos (by rw [hl]; exact h1)]
    have H1 := Lib.hid h1
    clear hE h1 hl
    go_enter Try.func85, Try.ntmps85
    go_wp2_with fail
    refine (withinref_is _ _ _ false H1.out _).mono ?_
    rintro e w' ⟨rfl, rfl⟩
    go_wp2
    go_ret
    exact ⟨rfl, by repeat' (first | exact Below.refl _ _ | refine below_drewN ?_ _ | refine Below.drew ?_ | refine Below.alloc ?_ (by first | omega | (simp; done) | (simp; omega) | (simp [World.setCell]; omega)) _ | refine Below.setCell ?_ (by first | omega | (simp; done) | (simp; omega)) _)⟩
  have hn3 := (withinB_iff _ _ _).1 h1
  have hE1 : E = if withinB D 1 1000000000000 = false ∨ smallL 1000000000000 T = false then 2 else if gcdF D T ≠ 1 then 3 else 0 := by rw [← hE]; unfold mdlErr; rw [if_neg (by rw [hl, h1]; simp)]
  have H1 := Lib.hid h1
  clear hE h1 hl
  cases h2 : withinB D 1 1000000000000
  · obtain rfl : E = 2 := by rw [hE1, if_pos (.inl h2)]
    have H2 := Lib.hid h2
    clear hE1 h2
    go_enter Try.func85, Try.ntmps85
    go_wp2_with fail
    refine (withinref_is _ _ _ true H1.out _).mono ?_
    rintro e w' ⟨rfl, rfl⟩
    go_wp2_with fail
    refine (withinref_is _ _ _ false H2.out _).mono ?_
    rintro e w' ⟨rfl, rfl⟩
    go_wp2
    go_ret
    exact ⟨rfl, by repeat' (first | exact Below.refl _ _ | refine below_drewN ?_ _ | refine Below.drew ?_ | refine Below.alloc ?_ (by first | omega | (simp; done) | (simp; omega) | (simp [World.setCell]; omega)) _ | refine Below.setCell ?_ (by first | omega | (simp; done) | (simp; omega)) _)⟩
  have hD := (withinB_iff _ _ _).1 h2
  have hE2 : E = if smallL 1000000000000 T = false then 2 else if gcdF D T ≠ 1 then 3 else 0 := by rw [hE1, h2]; simp
  have H2 := Lib.hid h2
  have HE := Lib.hid hE2
  clear hE1 h2 hE2
  go_enter Try.func85, Try.ntmps85
  go_wp2_with fail
  refine (withinref_is _ _ _ true H1.out _).mono ?_
  rintro e w' ⟨rfl, rfl⟩
  go_wp2_with fail
  refine (withinref_is _ _ _ true H2.out _).mono ?_
  rintro e w' ⟨rfl, rfl⟩
  go_wp2_with fail
  generalize hwn : (w.alloc (.cells #[.slice A n c, .int .i64 (D)] 45)) = w1
  have hbn : Below w.heap.size w w1 := by rw [← hwn]; repeat' (first | exact Below.refl _ _ | refine below_drewN ?_ _ | refine Below.drew ?_ | refine Below.alloc ?_ (by first | omega | (simp; done) | (simp; omega) | (simp [World.setCell]; omega)) _ | refine Below.setCell ?_ (by first | omega | (simp; done) | (simp; omega)) _)
  have HB1 := Lib.hid (show Below w.heap.size w w1 from hbn)
  have K0_1 := Lib.hid (show Blk w1 (w.heap.size) 45 #[.slice A n c, .int .i64 (D)] by rw [← hwn]; repeat' (first | exact Blk.at_ _ (by first | rfl | (simp; done) | (simp; omega)) _ _ | refine Blk.drewN ?_ _ | refine Blk.drew ?_ | refine Blk.alloc ?_ _ | refine Blk.far ?_ (by first | omega | (simp; done) | (simp; omega)) _ | assumption))
  have HN1 := Lib.hid hbn
  have hz1 := hbn.size
  clear hwn hbn
  have l0_1 : w.heap.size < w1.heap.size := K0_1.out.lt
  have z0_0_1 : w1.cell? ⟨w.heap.size, 0, none⟩ = some (.slice A n c) := K0_1.out.cell 0
  have z0_1_1 : w1.cell? ⟨w.heap.size, 1, none⟩ = some (.int .i64 (D)) := K0_1.out.cell 1
  go_loopw [3, 4] (fun g i wr => ∃ k : Nat, k ≤ n ∧ g = .int .i64 (gcdF D (T.take k)) ∧ i = .int .i64 k ∧ Below w1.heap.size w1 wr ∧ smallL 1000000000000 (T.take k) = true) (fun _ i _ => n - (intOf i).toNat)
  case atStart => exact ⟨0, by omega, rfl, rfl, Below.refl _ _, rfl⟩
  case round =>
    obtain ⟨k, hk, rfl, rfl, hb, hsm⟩ := hrel
    obtain ⟨w2, hnm⟩ : ∃ z : World, z = wr := ⟨_, rfl⟩
    subst hnm
    have hb' := HB1.out.trans (hb.mono HB1.out.size)
    have hk0 := Blk.below K0_1.out hb l0_1
    have HBR := Lib.hid hb
    have HBW := Lib.hid hb'
    have HSM := Lib.hid hsm
    obtain ⟨g1, g2⟩ := gcdF_in (T.take k) D hD.1
    have y0 := hk0.cell 0
    have y1 := hk0.cell 1
    clear hb hsm hk0
    by_cases hlt : k < n
    · obtain ⟨xb, xo, z, rfl, -, hz, c0⟩ := (HX.out.below hb').int_ hlt
      have hkk : (k : Int) < (n : Int) := by omega
      have hst : T.take (k + 1) = T.take k ++ [z] := by rw [List.take_add_one, hz]; rfl
      cases hw : withinB z (-1000000000000) 1000000000000
      · have hs : smallL 1000000000000 T = false := by
          cases hh : smallL 1000000000000 T
          · rfl
          · have := List.all_eq_true.1 hh z (List.mem_of_getElem? hz)
            rw [hw] at this; cases this
        obtain rfl : E = 2 := by rw [HE.out, if_pos hs]
        have HW := Lib.hid hw
        clear hz hst hw hs hb'
        go_wp2_with fail
        refine (withinref_is _ _ _ false HW.out _).mono ?_
        rintro e w' ⟨rfl, rfl⟩
        go_wp2
        go_ret
        exact ⟨rfl, HBW.out⟩
      have hzR := (withinB_iff _ _ _).1 hw
      obtain ⟨g, hg⟩ : ∃ g, (Int.gcd z (gcdF D (T.take k)) : Int) = g := ⟨_, rfl⟩
      have hgs : gcdF D (T.take (k + 1)) = g := by rw [hst, ← hg, Int.gcd_comm]; exact gcdF_snoc z _ D
      have hs2 : smallL 1000000000000 (T.take (k + 1)) = true := by
        have := HSM.out
        unfold smallL at this ⊢
        rw [hst, List.all_append, this]
        simpa using hw
      have HG := Lib.hid hg
      have HGS := Lib.hid hgs
      have HS2 := Lib.hid hs2
      have HW := Lib.hid hw
      clear hz hg hgs hb' hst hs2 hw
      go_wp2_with fail
      refine (withinref_is _ _ _ true HW.out _).mono ?_
      rintro e w' ⟨rfl, rfl⟩
      go_wp2_with fail
      refine (gcdr_is z _ g HG.out _ ⟨g1, by omega⟩ hzR).mono ?_
      rintro e w4 ⟨rfl, q, rfl⟩
      go_wp2
      go_roundw
      case rel => exact ⟨k + 1, by omega, by rw [HGS.out], by go_num, below_drewN HBR.out _, HS2.out⟩
      case measure => simp [intOf]; omega
    · obtain rfl : n = k := by omega
      have htk : T.take n = T := List.take_of_length_le (by rw [HL.out]; exact Nat.le_refl _)
      have hsm := HSM.out
      rw [htk] at hsm
      obtain ⟨g, hg⟩ : ∃ g, gcdF D T = g := ⟨_, rfl⟩
      have hEE := HE.out
      rw [hg, if_neg (by rw [hsm]; simp)] at hEE
      rw [htk, hg]
      clear htk hg g1 g2 hb' hsm
      by_cases h0 : g = 1
      · have e1 : (g != 1) = false := by simpa using h0
        obtain rfl : E = 0 := by rw [hEE, if_neg (by simp [h0])]
        clear hEE h0
        go_wp2
        go_ret
        exact ⟨rfl, HBW.out⟩
      · have e1 : (g != 1) = true := by simpa using h0
        obtain rfl : E = 3 := by rw [hEE, if_pos h0]
        clear hEE
        go_wp2
        go_ret
        exact ⟨rfl, HBW.out⟩

/-- The sum of products of terms and shapes, of the first k. -/
def dotTo (T S : List Int) (k : Nat) : Int := (((T.zip S).take k).map fun p => p.1 * p.2).sum
theorem dotTo_succ {T S : List Int} {k : Nat} {a b : Int} (ha : T[k]? = some a) (hb : S[k]? = some b) : dotTo T S (k + 1) = dotTo T S k + a * b := by
  unfold dotTo
  rw [List.take_add_one, show (T.zip S)[k]? = some (a, b) from by rw [List.getElem?_zip_eq_some]; exact ⟨ha, hb⟩]
  simp
theorem dotTo_in {T S : List Int} {b : Int} (h0 : 0 ≤ b) (hb : b ≤ 1000) (hT : ∀ z ∈ T, -1000000000000 ≤ z ∧ z ≤ 1000000000000) (hS : ∀ z ∈ S, -b ≤ z ∧ z ≤ b) (k : Nat) (hk : k ≤ 3) : -(1000000000000 * b * k) ≤ dotTo T S k ∧ dotTo T S k ≤ 1000000000000 * b * k := by
  have hb0 : 0 ≤ 1000000000000 * b := by omega
  have h1 := sum_in (1000000000000 * b) hb0 (((T.zip S).take k).map fun p => p.1 * p.2) fun z hz => by
    obtain ⟨p, hp, rfl⟩ := List.mem_map.1 hz
    obtain ⟨p1, p2⟩ := p
    obtain ⟨m1, m2⟩ := List.of_mem_zip (List.mem_of_mem_take hp)
    exact mulb (hT _ m1) (hS _ m2) (by decide) h0
  have h2 : (((T.zip S).take k).map fun p : Int × Int => p.1 * p.2).length ≤ k := by rw [List.length_map]; exact List.length_take_le _ _
  have h3 : 1000000000000 * b * ((((T.zip S).take k).map fun p : Int × Int => p.1 * p.2).length : Int) ≤ 1000000000000 * b * (k : Int) := Int.mul_le_mul_of_nonneg_left (by omega) hb0
  unfold dotTo
  omega

set_option maxRecDepth 100000 in
theorem value_is (A : Option Addr) (n c : Nat) (T : List Int) (D : Int) (B : Option Addr) (cb : Nat) (S : List Int) (b v : Int) (hv : dotTo T S n = v) (w : World) (hx : Reads w w.heap.size 1 A n (T.map (.int .i64))) (hy : Reads w w.heap.size 1 B n (S.map (.int .i64))) (hn : n ≤ 3) (h0 : 0 ≤ b) (hb : b ≤ 1000) (hT : ∀ z ∈ T, -1000000000000 ≤ z ∧ z ≤ 1000000000000) (hS : ∀ z ∈ S, -b ≤ z ∧ z ≤ b) :
    Calls Try.prog 86 #[.agg #[.slice A n c, .int .i64 D], .slice B n cb] w fun e w' => e = .returned (.int .i64 v) ∧ Below w.heap.size w w' := by
  have HX := Lib.hid hx
  have HY := Lib.hid hy
  have HV := Lib.hid hv
  have HT := Lib.hid hT
  have HS := Lib.hid hS
  clear hx hy hv hT hS
  go_enter Try.func86, Try.ntmps86
  go_wp2_with fail
  generalize hwn : (w.alloc (.cells #[.slice A n c, .int .i64 (D)] 45)) = w1
  have hbn : Below w.heap.size w w1 := by rw [← hwn]; repeat' (first | exact Below.refl _ _ | refine below_drewN ?_ _ | refine Below.drew ?_ | refine Below.alloc ?_ (by first | omega | (simp; done) | (simp; omega) | (simp [World.setCell]; omega)) _ | refine Below.setCell ?_ (by first | omega | (simp; done) | (simp; omega)) _)
  have HB1 := Lib.hid (show Below w.heap.size w w1 from hbn)
  have K0_1 := Lib.hid (show Blk w1 (w.heap.size) 45 #[.slice A n c, .int .i64 (D)] by rw [← hwn]; repeat' (first | exact Blk.at_ _ (by first | rfl | (simp; done) | (simp; omega)) _ _ | refine Blk.drewN ?_ _ | refine Blk.drew ?_ | refine Blk.alloc ?_ _ | refine Blk.far ?_ (by first | omega | (simp; done) | (simp; omega)) _ | assumption))
  have HN1 := Lib.hid hbn
  have hz1 := hbn.size
  clear hwn hbn
  have l0_1 : w.heap.size < w1.heap.size := K0_1.out.lt
  have z0_0_1 : w1.cell? ⟨w.heap.size, 0, none⟩ = some (.slice A n c) := K0_1.out.cell 0
  have z0_1_1 : w1.cell? ⟨w.heap.size, 1, none⟩ = some (.int .i64 (D)) := K0_1.out.cell 1
  go_loopw [5, 11] (fun s i wr => ∃ k : Nat, k ≤ n ∧ s = .int .i64 (dotTo T S k) ∧ i = .int .i64 k ∧ Below w1.heap.size w1 wr) (fun _ i _ => n - (intOf i).toNat)
  case atStart => exact ⟨0, by omega, rfl, rfl, Below.refl _ _⟩
  case round =>
    obtain ⟨k, hk, rfl, rfl, hbl⟩ := hrel
    have hb' := HB1.out.trans (hbl.mono HB1.out.size)
    have HBR := Lib.hid hbl
    have HBW := Lib.hid hb'
    clear hbl
    by_cases hlt : k < n
    · obtain ⟨xb, xo, x, rfl, -, hx, c0⟩ := (HX.out.below hb').int_ hlt
      obtain ⟨yb, yo, y, rfl, -, hy, c1⟩ := (HY.out.below hb').int_ hlt
      have i1 := dotTo_in h0 hb HT.out HS.out k (by omega)
      have i2 := dotTo_in h0 hb HT.out HS.out (k + 1) (by omega)
      have hsn := dotTo_succ hx hy
      have hm := mulb (HT.out x (List.mem_of_getElem? hx)) (HS.out y (List.mem_of_getElem? hy)) (by decide) h0
      have e0 : 1000000000000 * b ≤ 1000000000000000 := by omega
      have e1 : 1000000000000 * b * (k : Int) ≤ 1000000000000000 * 3 := by
        have := Int.mul_le_mul (show 1000000000000 * b ≤ 1000000000000000 by omega) (show (k : Int) ≤ 3 by omega) (by omega) (by decide)
        exact this
      have e2 : 1000000000000 * b * ((k + 1 : Nat) : Int) ≤ 1000000000000000 * 3 := by
        have := Int.mul_le_mul (show 1000000000000 * b ≤ 1000000000000000 by omega) (show ((k + 1 : Nat) : Int) ≤ 3 by omega) (by omega) (by decide)
        exact this
      obtain ⟨s, hs⟩ : ∃ s, dotTo T S k = s := ⟨_, rfl⟩
      rw [hs] at i1 hsn ⊢
      rw [hsn] at i2
      have v1 := IntWalk.i64_in (x * y) ⟨by omega, by omega⟩
      have v2 := IntWalk.i64_in (s + x * y) ⟨by omega, by omega⟩
      have HSN := Lib.hid hsn
      have hkk : (k : Int) < (n : Int) := by omega
      clear hx hy hs i1 i2 hsn hm e0 e1 e2 hb'
      go_wp2
      go_roundw
      case rel => exact ⟨k + 1, by omega, by rw [HSN.out], by go_num, HBR.out⟩
      case measure => simp [intOf]; omega
    · obtain rfl : n = k := by omega
      rw [HV.out]
      clear hb'
      go_wp2
      go_ret
      exact ⟨rfl, HBW.out⟩
end Go.Proofs.Ytdidcpealabaiaa

end
