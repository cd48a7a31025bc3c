/- The walk of the statement on peak to valley. -/
import Derived.Test.YtmioamcgbihhjaaRPeak
import Derived.Test.YtmioamcgbihhjaaCopy
import Derived.Test.YtmioamcgbihhjaaAwake
import Derived.Test.YtmioamcgbihhjaaArgs
namespace Go.Proofs.Ytmioamcgbihhjaa
open Go.RowKit

@[go_sem] theorem held_range : Try.prog.stoodInHeld 64 = false := by kernel_rfl
@[go_sem] theorem guard_range : Try.prog.eqGuardType Try.prog.depth 64 = false := by kernel_rfl
theorem eq_range (a b c d : Int) (w : World) : (Op.equalIn 10000 64 (.agg #[.int .i64 a, .int .i64 b]) (.agg #[.int .i64 c, .int .i64 d])).run Try.prog w = .ok (decide ((a, b) = (c, d))) w := by
  simp [go_sem]
  by_cases h1 : a = c <;> by_cases h2 : b = d <;> simp [h1, h2]
@[go_sem ↓ high] theorem eql_range (a b c d : Int) (w : World) : (binOp .eql 64 (.agg #[.int .i64 a, .int .i64 b]) (.agg #[.int .i64 c, .int .i64 d])).run Try.prog w = .ok (.bool (decide ((a, b) = (c, d)))) w := by
  rw [run_eql_struct, eq_range]; rfl
@[go_sem ↓ high] theorem neq_range (a b c d : Int) (w : World) : (binOp .neq 64 (.agg #[.int .i64 a, .int .i64 b]) (.agg #[.int .i64 c, .int .i64 d])).run Try.prog w = .ok (.bool (!decide ((a, b) = (c, d)))) w := by
  rw [run_neq_struct, eq_range]; rfl

theorem mod_any (a b : Int) (w : World) (h1 : -9223372036854775808 ≤ a) (h2 : a ≤ 9223372036854775807) (h3 : 1 ≤ b) (h4 : b ≤ 9223372036854775807) :
    Calls Try.prog 41 #[.int .i64 a, .int .i64 b] w fun e w' => e = .returned (.int .i64 (a % b)) ∧ w = w' := by
  have b0 : ¬ b = 0 := by omega
  have hlt := tmod_lt a b b0
  have hin := tmod_in a b (by omega) h4 b0
  have he : a % b = if a.tmod b < 0 then a.tmod b + b else a.tmod b := by
    rw [Int.tmod_eq_emod]
    have := Int.emod_nonneg a b0
    have := Int.emod_lt_of_pos a (show 0 < b by omega)
    by_cases h : 0 ≤ a ∨ b ∣ a
    · rw [if_pos h, if_neg (by omega)]
      omega
    · rw [if_neg h]
      have hn : (b.natAbs : Int) = b := by omega
      rw [hn, if_pos (by omega)]
      omega
  have HE := Lib.hid he
  clear he
  obtain ⟨r, hr⟩ : ∃ r, a.tmod b = r := ⟨_, rfl⟩
  rw [hr] at hlt hin
  have hw := IntWalk.i64_in r ⟨by omega, by omega⟩
  by_cases hneg : r < 0
  · have hw2 := IntWalk.i64_in (r + b) ⟨by omega, by omega⟩
    go_enter Try.func41, Try.ntmps41
    go_wp2
    go_ret
    exact ⟨ret_int (by rw [HE.out, hr, if_pos (by omega)]), rfl⟩
  · go_enter Try.func41, Try.ntmps41
    go_wp2
    go_ret
    exact ⟨ret_int (by rw [HE.out, hr, if_neg (by omega)]), rfl⟩

/-- What a choice takes of a range. -/
def pick (l : List (Int × Int)) (z : List Int) (j : Nat) : Int := (l.getD j (0, 0)).1 + z.getD j 0 % ((l.getD j (0, 0)).2 - (l.getD j (0, 0)).1 + 1)
structure PkInv (l : List (Int × Int)) (z : List Int) (q : Nat) (hi lo : Int) : Prop where
  h1 : -1000000000000000 ≤ hi
  h2 : hi ≤ 1000000000000000
  l1 : -1000000000000000 ≤ lo
  l2 : lo ≤ 1000000000000000
  zero : q = 0 → hi = -1000000000000000 ∧ lo = 1000000000000000
  some_ : 0 < q → ∃ a b, a < q ∧ b < q ∧ hi = pick l z a ∧ lo = pick l z b
  all : ∀ j, j < q → lo ≤ pick l z j ∧ pick l z j ≤ hi
theorem PkInv.step {l : List (Int × Int)} {z : List Int} {q : Nat} {hi lo : Int} (h : PkInv l z q hi lo) (h1 : -1000000000000000 ≤ pick l z q) (h2 : pick l z q ≤ 1000000000000000) : PkInv l z (q + 1) (max hi (pick l z q)) (min lo (pick l z q)) := by
  have a1 := h.h1
  have a2 := h.h2
  have a3 := h.l1
  have a4 := h.l2
  refine ⟨by omega, by omega, by omega, by omega, fun e => by omega, fun _ => ?_, fun j hj => ?_⟩
  · rcases Nat.eq_zero_or_pos q with e | e
    · obtain ⟨z1, z2⟩ := h.zero e
      exact ⟨q, q, by omega, by omega, by omega, by omega⟩
    · obtain ⟨a, b, ha, hb, ea, eb⟩ := h.some_ e
      refine ⟨if hi < pick l z q then q else a, if pick l z q < lo then q else b, by split <;> omega, by split <;> omega, ?_, ?_⟩
      · split <;> omega
      · split <;> omega
  · by_cases e : j = q
    · subst e; omega
    · have := h.all j (by omega); omega

theorem pick_in {l : List (Int × Int)} {z : List Int} {j : Nat} (h : (l.getD j (0, 0)).1 ≤ (l.getD j (0, 0)).2) : (l.getD j (0, 0)).1 ≤ pick l z j ∧ pick l z j ≤ (l.getD j (0, 0)).2 := by
  unfold pick
  have := Int.emod_nonneg (z.getD j 0) (show (l.getD j (0, 0)).2 - (l.getD j (0, 0)).1 + 1 ≠ 0 by omega)
  have := Int.emod_lt_of_pos (z.getD j 0) (show 0 < (l.getD j (0, 0)).2 - (l.getD j (0, 0)).1 + 1 by omega)
  omega

/-- Any choice lies within the range that is told. -/
theorem pick_within {l : List (Int × Int)} {z : List Int} {hi lo : Int} (hl : 0 < l.length) (hok : ∀ p ∈ l, rangeErr p = 0) (h : PkInv l z l.length hi lo) : (spAll l l.length).1 ≤ hi - lo ∧ hi - lo ≤ (spAll l l.length).2 := by
  have hd : ∀ j, j < l.length → (l.getD j (0, 0)).1 ≤ pick l z j ∧ pick l z j ≤ (l.getD j (0, 0)).2 := fun j hj => by
    have := rangeErr_zero (hok (l.getD j (0, 0)) (by rw [List.getD, List.getElem?_eq_getElem hj]; exact List.getElem_mem hj))
    exact pick_in this.2.1
  obtain ⟨a, b, ha, hb, ea, eb⟩ := h.some_ hl
  have h0 := h.all 0 hl
  constructor
  · refine (spAll_le l (hi - lo) (spAll l l.length).2 (by omega) (spAll_mono l _).2 l.length fun i k hi' hk hne => ⟨?_, (spAll_ge l _ i k hi' hk hne).2⟩).1
    have h1 := h.all i hi'
    have h2 := h.all k hk
    have h3 := hd i hi'
    have h4 := hd k hk
    omega
  · by_cases e : a = b
    · subst e
      have := (spAll_mono l l.length).2
      omega
    · have h1 := (spAll_ge l _ a b ha hb e).2
      have h3 := hd a ha
      have h4 := hd b hb
      omega

theorem peakF_ok {l : List (Int × Int)} {x y : Int} (h : peakF l = ((x, y), 0)) : 1 ≤ l.length ∧ l.length ≤ 40 ∧ (∀ p ∈ l, rangeErr p = 0) ∧ spAll l l.length = (x, y) ∧ x ≤ y := by
  unfold peakF at h
  split at h
  · cases h
  · split at h
    · rename_i h1 h2
      exact absurd (congrArg (fun q => q.2) h) h2
    · split at h
      · cases h
      · rename_i h1 h2 h3
        have hw := within_yes (show withinB (l.length : Int) 1 40 = true by cases hb : withinB (l.length : Int) 1 40 with | true => rfl | false => exact absurd hb h1)
        have e := congrArg (fun q => q.1) h
        simp only at e
        have hz := rangeErr_zero (show rangeErr (spAll l l.length) = 0 by simpa using h3)
        rw [e] at hz
        exact ⟨by omega, by omega, firstErr_zero (by simpa using h2), e, hz.2.1⟩

set_option maxRecDepth 100000 in
set_option maxHeartbeats 4000000 in
theorem law7_any (A : Option Addr) (n c : Nat) (l : List (Int × Int)) (A1 : Option Addr) (n1 c1 : Nat) (z : List Int) (w : World) (hnc : n ≤ c ∧ c ≤ 9223372036854775807) (hl : l.length = n) (_ : ∀ p ∈ l, I64 p.1 ∧ I64 p.2) (hx : Reads w w.heap.size 2 A n (cells2 l))
    (hnc1 : n1 ≤ c1 ∧ c1 ≤ 9223372036854775807) (hl1 : z.length = n1) (hz : ∀ p ∈ z, I64 p) (hx1 : Reads w w.heap.size 1 A1 n1 (z.map (.int .i64))) :
    Calls Try.prog 7 #[.slice A n c, .slice A1 n1 c1] w fun e w' => e = .returned (.bool true) ∧ Below w.heap.size w w' := by
  obtain ⟨hn0, hn2⟩ := hnc
  have hn : n ≤ 9223372036854775807 := by omega
  have hn1 : n1 ≤ 9223372036854775807 := by omega
  have HX := Lib.hid hx
  have HX1 := Lib.hid hx1
  have HL := Lib.hid hl
  have HL1 := Lib.hid hl1
  have HZ := Lib.hid hz
  clear hx hl hx1 hl1 hz hnc1 hn2 hn0
  have hcs : (12 < (n : Int) ∧ (n : Int) ≤ 40) ∨ (12 < (n : Int) ∧ ¬ (n : Int) ≤ 40 ∧ 43 < (n : Int)) ∨ (12 < (n : Int) ∧ ¬ (n : Int) ≤ 40 ∧ ¬ 43 < (n : Int)) ∨ (¬ 12 < (n : Int) ∧ ¬ 43 < (n : Int)) := by omega
  have HCS := Lib.hid hcs
  clear hcs
  rcases HCS.out with ⟨k1, k2⟩ | ⟨k1, k2, k3⟩ | hk
  · go_enter Try.func7, Try.ntmps7
    go_wp2_with fail
    refine (awake_any _).mono ?_
    rintro e w1 ⟨rfl, hb⟩
    have HB1 := Lib.hid (show Below w.heap.size w w1 from step_below hb (by repeat' (first | exact Below.refl _ _ | exact HB0.out | assumption | refine below_drewN ?_ _ | refine Below.drew ?_ | refine Below.alloc ?_ (by first | omega | (simp; done) | (simp; omega) | (simp [World.setCell]; omega)) _ | refine Below.setCell ?_ (by first | omega | (simp; done) | (simp; omega)) _)))
    have hz1 := hb.size
    try simp only [World.size_alloc, World.drewN, World.drew] at hz1
    clear hb
    go_wp2
    go_ret
    exact ⟨rfl, by repeat' (first | exact Below.refl _ _ | exact HB1.out | assumption | refine below_drewN ?_ _ | refine Below.drew ?_ | refine Below.alloc ?_ (by first | omega | (simp; done) | (simp; omega) | (simp [World.setCell]; omega)) _ | refine Below.setCell ?_ (by first | omega | (simp; done) | (simp; omega)) _)⟩
  · go_enter Try.func7, Try.ntmps7
    go_wp2_with fail
    refine (awake_any _).mono ?_
    rintro e w1 ⟨rfl, hb⟩
    have HB1 := Lib.hid (show Below w.heap.size w w1 from step_below hb (by repeat' (first | exact Below.refl _ _ | exact HB0.out | assumption | refine below_drewN ?_ _ | refine Below.drew ?_ | refine Below.alloc ?_ (by first | omega | (simp; done) | (simp; omega) | (simp [World.setCell]; omega)) _ | refine Below.setCell ?_ (by first | omega | (simp; done) | (simp; omega)) _)))
    have hz1 := hb.size
    try simp only [World.size_alloc, World.drewN, World.drew] at hz1
    clear hb
    go_wp2
    go_ret
    exact ⟨rfl, by repeat' (first | exact Below.refl _ _ | exact HB1.out | assumption | refine below_drewN ?_ _ | refine Below.drew ?_ | refine Below.alloc ?_ (by first | omega | (simp; done) | (simp; omega) | (simp [World.setCell]; omega)) _ | refine Below.setCell ?_ (by first | omega | (simp; done) | (simp; omega)) _)⟩
  obtain ⟨R, hR⟩ : ∃ R, peakF l = R := ⟨_, rfl⟩
  obtain ⟨⟨x, y⟩, e⟩ := R
  have hn43 : n ≤ 43 := by omega
  have HR := Lib.hid hR
  clear hR HCS
  have HK := Lib.hid hk
  clear hk
  rcases HK.out with ⟨k1, k2, k3⟩ | ⟨k1, k3⟩
  all_goals
    go_enter Try.func7, Try.ntmps7
    go_wp2_with fail
    refine (awake_any _).mono ?_
    rintro e w1 ⟨rfl, hb⟩
    have HB1 := Lib.hid (show Below w.heap.size w w1 from step_below hb (by repeat' (first | exact Below.refl _ _ | exact HB0.out | assumption | refine below_drewN ?_ _ | refine Below.drew ?_ | refine Below.alloc ?_ (by first | omega | (simp; done) | (simp; omega) | (simp [World.setCell]; omega)) _ | refine Below.setCell ?_ (by first | omega | (simp; done) | (simp; omega)) _)))
    have hz1 := hb.size
    try simp only [World.size_alloc, World.drewN, World.drew] at hz1
    clear hb
    go_wp2_with fail
    refine (copyranges_any A n c w.heap.size l _ (HX.out.belowLe HB1.out (Nat.le_refl _)) HB1.out.size (by omega)).mono ?_
    rintro en w2 ⟨A2, c2, rfl, hb2, hr2, -⟩
    have HR2 := Lib.hid hr2
    clear hr2
    have HB2 := Lib.hid (show Below w.heap.size w w2 from step_below hb2 (by repeat' (first | exact Below.refl _ _ | exact HB1.out | assumption | refine below_drewN ?_ _ | refine Below.drew ?_ | refine Below.alloc ?_ (by first | omega | (simp; done) | (simp; omega) | (simp [World.setCell]; omega)) _ | refine Below.setCell ?_ (by first | omega | (simp; done) | (simp; omega)) _)))
    have hz2 := hb2.size
    try simp only [World.size_alloc, World.drewN, World.drew] at hz2
    clear hb2
    go_wp2_with fail
    refine (peak_any A2 n c2 _ l _ HR2.out (Nat.le_refl _) hn x y e HR.out).mono ?_
    rintro e w3 ⟨rfl, hb⟩
    have HB3 := Lib.hid (show Below w.heap.size w w3 from step_below hb (by repeat' (first | exact Below.refl _ _ | exact HB2.out | assumption | refine below_drewN ?_ _ | refine Below.drew ?_ | refine Below.alloc ?_ (by first | omega | (simp; done) | (simp; omega) | (simp [World.setCell]; omega)) _ | refine Below.setCell ?_ (by first | omega | (simp; done) | (simp; omega)) _)))
    have hz3 := hb.size
    try simp only [World.size_alloc, World.drewN, World.drew] at hz3
    clear hb
    go_wp2_with fail
    refine (rpeak_any A n c w.heap.size l _ (HX.out.belowLe (HB3.out.alloc HB3.out.size _) (Nat.le_refl _)) (HB3.out.alloc HB3.out.size _).size hn x y e HR.out).mono ?_
    rintro e w4 ⟨rfl, hb⟩
    have HB4 := Lib.hid (show Below w.heap.size w w4 from step_below hb (by repeat' (first | exact Below.refl _ _ | exact HB3.out | assumption | refine below_drewN ?_ _ | refine Below.drew ?_ | refine Below.alloc ?_ (by first | omega | (simp; done) | (simp; omega) | (simp [World.setCell]; omega)) _ | refine Below.setCell ?_ (by first | omega | (simp; done) | (simp; omega)) _)))
    have K0_4 := Lib.hid (step_blk hb (show Blk _ (w3.heap.size) 64 #[.int .i64 (x), .int .i64 (y)] by repeat' (first | assumption | exact Blk.at_ _ (by first | rfl | (simp; done) | (simp; omega)) _ _ | refine Blk.drewN ?_ _ | refine Blk.drew ?_ | refine Blk.alloc ?_ _ | refine Blk.far ?_ (by first | omega | (simp; done) | (simp; omega)) _)))
    have hz4 := hb.size
    try simp only [World.size_alloc, World.drewN, World.drew] at hz4
    clear hb
    have l0_4 : w3.heap.size < w4.heap.size := K0_4.out.lt
    have z0_0_4 : w4.cell? ⟨w3.heap.size, 0, none⟩ = some (.int .i64 (x)) := K0_4.out.cell 0
    have z0_1_4 : w4.cell? ⟨w3.heap.size, 1, none⟩ = some (.int .i64 (y)) := K0_4.out.cell 1
    by_cases h0 : e = 0
    rotate_left
    · have e0 : (e != 0) = true := by simpa using h0
      go_wp2
      go_ret
      exact ⟨rfl, by repeat' (first | exact Below.refl _ _ | exact HB4.out | assumption | refine below_drewN ?_ _ | refine Below.drew ?_ | refine Below.alloc ?_ (by first | omega | (simp; done) | (simp; omega) | (simp [World.setCell]; omega)) _ | refine Below.setCell ?_ (by first | omega | (simp; done) | (simp; omega)) _)⟩
    subst h0
    by_cases hlt : (n1 : Int) < (n : Int)
    · go_wp2
      go_ret
      exact ⟨rfl, by repeat' (first | exact Below.refl _ _ | exact HB4.out | assumption | refine below_drewN ?_ _ | refine Below.drew ?_ | refine Below.alloc ?_ (by first | omega | (simp; done) | (simp; omega) | (simp [World.setCell]; omega)) _ | refine Below.setCell ?_ (by first | omega | (simp; done) | (simp; omega)) _)⟩
    obtain ⟨pk1, pk2, hok, hsp, hxy⟩ := peakF_ok HR.out
    have HOK := Lib.hid hok
    have HSP := Lib.hid hsp
    clear hok hsp
    have hz3 := HB3.out.size
    go_wp2
    go_loopw [9, 10, 11] (fun a b i wr => ∃ (q : Nat) (hi lo : Int), q ≤ n ∧ i = .int .i64 q ∧ a = .int .i64 hi ∧ b = .int .i64 lo ∧ PkInv l z q hi lo ∧ Below w.heap.size w wr ∧ Blk wr w3.heap.size 64 #[.int .i64 x, .int .i64 y]) (fun _ _ i _ => n - (intOf i).toNat)
    case atStart =>
      exact ⟨0, -1000000000000000, 1000000000000000, by omega, rfl, rfl, rfl, ⟨by omega, by omega, by omega, by omega, fun _ => ⟨rfl, rfl⟩, fun h => absurd h (by omega), fun j hj => absurd hj (by omega)⟩, HB4.out.alloc HB4.out.size _, K0_4.out.alloc _⟩
    case round =>
      obtain ⟨q, hi, lo, hq, rfl, rfl, rfl, hpk, hb, hk0⟩ := hrel
      have HB10 := Lib.hid hb
      have K0_10 := Lib.hid (show Blk wr (w3.heap.size) 64 #[.int .i64 (x), .int .i64 (y)] from hk0)
      clear hb hk0
      have l0_10 : w3.heap.size < wr.heap.size := K0_10.out.lt
      have z0_0_10 : wr.cell? ⟨w3.heap.size, 0, none⟩ = some (.int .i64 (x)) := K0_10.out.cell 0
      have z0_1_10 : wr.cell? ⟨w3.heap.size, 1, none⟩ = some (.int .i64 (y)) := K0_10.out.cell 1
      obtain ⟨p1, p2, p3, p4⟩ := And.intro hpk.h1 (And.intro hpk.h2 (And.intro hpk.l1 hpk.l2))
      have HPK := Lib.hid hpk
      clear hpk
      by_cases hq2 : q < n
      · obtain ⟨xb, xo, p, rfl, hxb, hp, f0, f1⟩ := (HX.out.belowLe HB10.out (Nat.le_refl _)).pair hq2
        obtain ⟨zb, zo, u, rfl, hzb, hu, f2⟩ := (HX1.out.belowLe HB10.out (Nat.le_refl _)).at_ (show q < n1 by omega)
        obtain ⟨t, ht, rfl⟩ : ∃ t, z[q]? = some t ∧ .int .i64 t = u := by
          rw [List.getElem?_map] at hu
          cases h : z[q]? with
          | none => rw [h] at hu; cases hu
          | some t => rw [h] at hu; exact ⟨t, rfl, Option.some.inj hu⟩
        obtain ⟨pz1, pz2, pz3⟩ := rangeErr_zero (HOK.out p (List.mem_of_getElem? hp))
        obtain ⟨t1, t2⟩ := HZ.out t (List.mem_of_getElem? ht)
        have hpick : pick l z q = p.1 + t % (p.2 - p.1 + 1) := by unfold pick; rw [List.getD, hp, List.getD, ht]; rfl
        have hpi := pick_in (l := l) (z := z) (j := q) (by rw [List.getD, hp]; exact pz2)
        rw [List.getD, hp, hpick] at hpi
        simp only [Option.getD_some] at hpi
        obtain ⟨i1, i2⟩ := hpi
        have HPI := Lib.hid hpick
        have v1 := IntWalk.i64_in (p.2 - p.1) ⟨by omega, by omega⟩
        have v2 := IntWalk.i64_in (p.2 - p.1 + 1) ⟨by omega, by omega⟩
        have v3 : IntKind.i64.wrap (p.1 + t % (p.2 - p.1 + 1)) = p.1 + t % (p.2 - p.1 + 1) := IntWalk.i64_in (p.1 + t % (p.2 - p.1 + 1)) ⟨by omega, by omega⟩
        have v4 : IntKind.i64.wrap (q : Int) = (q : Int) := IntWalk.i64_in (q : Int) ⟨by omega, by omega⟩
        have v5 : (0 : Int) ≤ (q : Int) := by omega
        have v6 : (q : Int) < (n : Int) := by omega
        have v7 : (q : Int) < (n1 : Int) := by omega
        clear hp hu ht hpick
        go_wp2
        refine Fx.regionW (fun W f w' => Below W.heap.size W w') (by kernel_rfl) (by kernel_rfl) ?_ ?_
        · intro f hf0
          exact below_drewN (Below.refl _ _) 1
        repeat (first
          | (refine Fx.skip_ (by rfl) (fun f w h => h) ?_; simp only [Act.put, List.setIfInBounds_toArray, List.set_cons_zero, List.set_cons_succ])
          | (refine Fx.val_ ?_ (by rfl) ?_ (fun f w h => h) ?_
             rotate_left
             · intro f w' hD hk
               have hb := hD
               have y0_0 : w'.cell? ⟨w3.heap.size, 0, none⟩ = some (.int .i64 (x)) := (step_blk hb (show Blk _ (w3.heap.size) 64 #[.int .i64 (x), .int .i64 (y)] by repeat' (first | assumption | exact K0_10.out | exact Blk.at_ _ (by first | rfl | (simp; done) | (simp; omega)) _ _ | refine Blk.drewN ?_ _ | refine Blk.drew ?_ | refine Blk.alloc ?_ _ | refine Blk.far ?_ (by first | omega | (simp; done) | (simp; omega)) _))).cell 0
               have y0_1 : w'.cell? ⟨w3.heap.size, 1, none⟩ = some (.int .i64 (y)) := (step_blk hb (show Blk _ (w3.heap.size) 64 #[.int .i64 (x), .int .i64 (y)] by repeat' (first | assumption | exact K0_10.out | exact Blk.at_ _ (by first | rfl | (simp; done) | (simp; omega)) _ _ | refine Blk.drewN ?_ _ | refine Blk.drew ?_ | refine Blk.alloc ?_ _ | refine Blk.far ?_ (by first | omega | (simp; done) | (simp; omega)) _))).cell 1
               have g0 := (hb.cell (p := ⟨xb, _, none⟩) (by show xb < _; omega)).trans f0
               have g1 := (hb.cell (p := ⟨xb, _, none⟩) (by show xb < _; omega)).trans f1
               have g2 := (hb.cell (p := ⟨zb, _, none⟩) (by show zb < _; omega)).trans f2
               clear hk hD hb
               go_simp
               try rfl
             simp only [Act.put, List.setIfInBounds_toArray, List.set_cons_zero, List.set_cons_succ]))
        refine Fx.call_ (.int .i64 (t % (p.2 - p.1 + 1))) ?_ ?_ (by rfl) ?_ ?_ ?_
        rotate_left 2
        · intro w'
          go_simp
          refine ⟨?_, ?_⟩ <;> rfl
        · intro f w' hD hk
          exact (mod_any t (p.2 - p.1 + 1) _ t1 t2 (by omega) (by omega)).mono fun e w'' ⟨he, hw⟩ => ⟨he, hw ▸ hD⟩
        simp only [Act.put, List.setIfInBounds_toArray, List.set_cons_zero, List.set_cons_succ]
        repeat (first
          | (refine Fx.skip_ (by rfl) (fun f w h => h) ?_; simp only [Act.put, List.setIfInBounds_toArray, List.set_cons_zero, List.set_cons_succ])
          | (refine Fx.val_ ?_ (by rfl) ?_ (fun f w h => h) ?_
             rotate_left
             · intro f w' hD hk
               have hb := hD
               have y0_0 : w'.cell? ⟨w3.heap.size, 0, none⟩ = some (.int .i64 (x)) := (step_blk hb (show Blk _ (w3.heap.size) 64 #[.int .i64 (x), .int .i64 (y)] by repeat' (first | assumption | exact K0_10.out | exact Blk.at_ _ (by first | rfl | (simp; done) | (simp; omega)) _ _ | refine Blk.drewN ?_ _ | refine Blk.drew ?_ | refine Blk.alloc ?_ _ | refine Blk.far ?_ (by first | omega | (simp; done) | (simp; omega)) _))).cell 0
               have y0_1 : w'.cell? ⟨w3.heap.size, 1, none⟩ = some (.int .i64 (y)) := (step_blk hb (show Blk _ (w3.heap.size) 64 #[.int .i64 (x), .int .i64 (y)] by repeat' (first | assumption | exact K0_10.out | exact Blk.at_ _ (by first | rfl | (simp; done) | (simp; omega)) _ _ | refine Blk.drewN ?_ _ | refine Blk.drew ?_ | refine Blk.alloc ?_ _ | refine Blk.far ?_ (by first | omega | (simp; done) | (simp; omega)) _))).cell 1
               have g0 := (hb.cell (p := ⟨xb, _, none⟩) (by show xb < _; omega)).trans f0
               have g1 := (hb.cell (p := ⟨xb, _, none⟩) (by show xb < _; omega)).trans f1
               have g2 := (hb.cell (p := ⟨zb, _, none⟩) (by show zb < _; omega)).trans f2
               clear hk hD hb
               go_simp
               try rfl
             simp only [Act.put, List.setIfInBounds_toArray, List.set_cons_zero, List.set_cons_succ]))
        refine Fx.nil_ ?_
        intro f w11 hall hb
        try clear hall
        have HB11 := Lib.hid (show Below w.heap.size w w11 from step_below hb (by repeat' (first | exact Below.refl _ _ | exact HB10.out | assumption | refine below_drewN ?_ _ | refine Below.drew ?_ | refine Below.alloc ?_ (by first | omega | (simp; done) | (simp; omega) | (simp [World.setCell]; omega)) _ | refine Below.setCell ?_ (by first | omega | (simp; done) | (simp; omega)) _)))
        have K0_11 := Lib.hid (step_blk hb (show Blk _ (w3.heap.size) 64 #[.int .i64 (x), .int .i64 (y)] by repeat' (first | assumption | exact K0_10.out | exact Blk.at_ _ (by first | rfl | (simp; done) | (simp; omega)) _ _ | refine Blk.drewN ?_ _ | refine Blk.drew ?_ | refine Blk.alloc ?_ _ | refine Blk.far ?_ (by first | omega | (simp; done) | (simp; omega)) _)))
        have hz11 := hb.size
        try simp only [World.size_alloc, World.drewN, World.drew] at hz11
        clear hb K0_10 z0_0_10 z0_1_10 l0_10
        have l0_11 : w3.heap.size < w11.heap.size := K0_11.out.lt
        have z0_0_11 : w11.cell? ⟨w3.heap.size, 0, none⟩ = some (.int .i64 (x)) := K0_11.out.cell 0
        have z0_1_11 : w11.cell? ⟨w3.heap.size, 1, none⟩ = some (.int .i64 (y)) := K0_11.out.cell 1
        obtain ⟨v, hv⟩ : ∃ v, p.1 + t % (p.2 - p.1 + 1) = v := ⟨_, rfl⟩
        have hstep := HPK.out.step (by rw [HPI.out]; omega) (by rw [HPI.out]; omega)
        rw [HPI.out, hv] at hstep
        have HST := Lib.hid hstep
        rw [hv]
        rw [hv] at i1 i2
        clear hv hstep v3
        have hm : (hi < v ∨ ¬ hi < v) ∧ (v < lo ∨ ¬ v < lo) := by omega
        rcases hm with ⟨m1 | m1, m2 | m2⟩
        all_goals
          go_wp2
          go_roundw
          case rel =>
            refine ⟨q + 1, max hi v, min lo v, by omega, by go_num, ?_, ?_, HST.out, HB11.out, K0_11.out⟩
            · exact congrArg _ (by omega)
            · exact congrArg _ (by omega)
          case measure => simp [intOf]; omega
      · have hqn : q = n := by omega
        have hpk := HPK.out
        rw [hqn, ← HL.out] at hpk
        have hw := pick_within (by omega) HOK.out hpk
        rw [HSP.out] at hw
        have hwb := within_mk (n := hi - lo) (lo := x) (hi := y) hw.1 hw.2
        have HWB := Lib.hid hwb
        have v1 := IntWalk.i64_in (hi - lo) ⟨by omega, by omega⟩
        clear hpk hw hwb
        go_wp2_with fail
        refine (withinref_is _ _ _ _ HWB.out _).mono ?_
        rintro en w' ⟨rfl, rfl⟩
        go_wp2
        go_ret
        exact ⟨rfl, by repeat' (first | exact Below.refl _ _ | exact HB10.out | assumption | refine below_drewN ?_ _ | refine Below.drew ?_ | refine Below.alloc ?_ (by first | omega | (simp; done) | (simp; omega) | (simp [World.setCell]; omega)) _ | refine Below.setCell ?_ (by first | omega | (simp; done) | (simp; omega)) _)⟩

end Go.Proofs.Ytmioamcgbihhjaa
