import Derived.Test.YtoiconebcmneiabQ9
import Derived.Test.YtoiconebcmneiabQ18
import Derived.Test.YtoiconebcmneiabQ2

section
/- The plain law of best approximations: behind the first one, each convergent is at least as near as any fraction of no greater denominator. -/
namespace Go.Proofs.Ytoiconebcmneiab
open Go.RowKit

theorem abs_mul_ge {u v b r : Int} (hb : 0 < b) (hr : 0 ≤ r) (hrb : r < b) (h : ¬ (u = 0 ∧ v = 0)) (hpos : ¬ (0 < u ∧ 0 < v)) (hneg : ¬ (u < 0 ∧ v < 0)) : r ≤ ((v * r - u * b).natAbs : Int) := by
  have key : ∀ u v : Int, 0 ≤ v → u ≤ 0 → ¬ (u = 0 ∧ v = 0) → r ≤ v * r - u * b := by
    intro u v hv hu h
    have h1 : 0 ≤ v * r := Int.mul_nonneg hv hr
    by_cases hu0 : u = 0
    · subst hu0
      have hv1 : 1 ≤ v := by omega
      have : 1 * r ≤ v * r := Int.mul_le_mul_of_nonneg_right hv1 hr
      omega
    · have h2 : u * b ≤ -1 * b := Int.mul_le_mul_of_nonneg_right (by omega) (by omega)
      omega
  by_cases hv : 0 ≤ v
  · by_cases hu : u ≤ 0
    · have := key u v hv hu h
      omega
    · have hv0 : v = 0 := by omega
      subst hv0
      have h2 : 1 * b ≤ u * b := Int.mul_le_mul_of_nonneg_right (by omega) (by omega)
      omega
  · have hu : 0 ≤ u := by omega
    have := key (-u) (-v) (by omega) (by omega) (by omega)
    have e : -v * r - -u * b = -(v * r - u * b) := by grind
    rw [e] at this
    omega

/-- What holds of a convergent and the one ahead of it: signs, the determinant, the parts. -/
structure Pair2 (n d a b : Int) (o l : Int × Int) : Prop where
  sign : ∃ s : Int, (s = 1 ∨ s = -1) ∧ n * o.2 - o.1 * d = s * a ∧ n * l.2 - l.1 * d = -(s * b)
  det : l.1 * o.2 - o.1 * l.2 = 1 ∨ l.1 * o.2 - o.1 * l.2 = -1
  o1 : 0 ≤ o.1
  o2 : 0 ≤ o.2
  l1 : 0 ≤ l.1
  l2 : 1 ≤ l.2
  one : 1 ≤ o.1 + l.1
  b0 : 0 ≤ b
  ba : b ≤ a

theorem Pair2.next {n d a b : Int} {o l : Int × Int} (h : Pair2 n d a b o l) (hb : 0 < b) : Pair2 n d b (a % b) l (nxt a b o l) ∧ 1 ≤ (nxt a b o l).1 := by
  obtain ⟨⟨s, hs, e1, e2⟩, hd, g1, g2, g3, g4, g5, g6, g7⟩ := h
  obtain ⟨o1, o2⟩ := o
  obtain ⟨l1, l2⟩ := l
  simp only at *
  have q1 : 1 ≤ a / b := (Int.le_ediv_iff_mul_le hb).2 (by omega)
  have q2 := Int.mul_ediv_add_emod a b
  have q3 := Int.emod_nonneg a (show b ≠ 0 by omega)
  have q4 := Int.emod_lt_of_pos a hb
  unfold nxt
  simp only
  generalize a / b = q at *
  generalize a % b = r at *
  have m1 : 1 * l1 ≤ q * l1 := Int.mul_le_mul_of_nonneg_right q1 g3
  have m2 : 1 * l2 ≤ q * l2 := Int.mul_le_mul_of_nonneg_right q1 (by omega)
  refine ⟨⟨⟨-s, by omega, ?_, ?_⟩, ?_, g3, by simp only; omega, by simp only; omega, by simp only; omega, by simp only; omega, q3, by omega⟩, by omega⟩
  · simp only; rw [e2]; grind
  · simp only; grind
  · simp only
    rcases hd with hd | hd
    · right; grind
    · left; grind

/-- The convergent behind two such ones is at least as near as any fraction of no greater denominator. -/
theorem Pair2.best {n d a b : Int} {o l : Int × Int} (h : Pair2 n d a b o l) (hb : 0 < b) {x y : Int} (h1 : 1 ≤ y) (h2 : y ≤ (nxt a b o l).2) : a % b ≤ ((n * y - x * d).natAbs : Int) := by
  have hn := (h.next hb).1
  have hl2 := h.l2
  obtain ⟨⟨s, hs, e1, e2⟩, hd, -, -, -, g4, -, -, -⟩ := hn
  have q3 := Int.emod_nonneg a (show b ≠ 0 by omega)
  have q4 := Int.emod_lt_of_pos a hb
  generalize nxt a b o l = p at *
  generalize a % b = r at *
  obtain ⟨p1, p2⟩ := p
  obtain ⟨l1, l2⟩ := l
  simp only at *
  -- (x, y) = u l + v p
  obtain ⟨u, v, hx, hy⟩ : ∃ u v : Int, x = u * l1 + v * p1 ∧ y = u * l2 + v * p2 := by
    rcases hd with hd | hd
    · exact ⟨p1 * y - x * p2, x * l2 - l1 * y, by grind, by grind⟩
    · exact ⟨-(p1 * y - x * p2), -(x * l2 - l1 * y), by grind, by grind⟩
  have e3 : n * y - x * d = s * (u * b - v * r) := by grind
  have habs : ((n * y - x * d).natAbs : Int) = ((v * r - u * b).natAbs : Int) := by
    rw [e3]
    rcases hs with rfl | rfl <;> omega
  rw [habs]
  refine abs_mul_ge hb q3 q4 ?_ ?_ ?_
  · rintro ⟨rfl, rfl⟩
    omega
  · rintro ⟨hu, hv⟩
    have m1 : 1 * l2 ≤ u * l2 := Int.mul_le_mul_of_nonneg_right (by omega) (by omega)
    have m2 : 1 * p2 ≤ v * p2 := Int.mul_le_mul_of_nonneg_right (by omega) (by omega)
    omega
  · rintro ⟨hu, hv⟩
    have m1 : u * l2 ≤ -1 * l2 := Int.mul_le_mul_of_nonneg_right (by omega) (by omega)
    have m2 : v * p2 ≤ -1 * p2 := Int.mul_le_mul_of_nonneg_right (by omega) (by omega)
    omega

/-- What is claimed of each convergent behind the first. -/
def BestC (n d : Int) (p : Int × Int) : Prop := 1 ≤ p.1 ∧ 1 ≤ p.2 ∧ Int.gcd p.1 p.2 = 1 ∧ ∀ x y : Int, 1 ≤ y → y ≤ p.2 → ((n * p.2 - p.1 * d).natAbs : Int) ≤ ((n * y - x * d).natAbs : Int)

theorem conv_best {n d : Int} : ∀ (k : Nat) (a b : Int) (o l : Int × Int), b.toNat ≤ k → Pair2 n d a b o l → ∀ p ∈ conv a b o l, BestC n d p := by
  intro k
  induction k with
  | zero =>
    intro a b o l hk h p hp
    rw [conv_end o l (by have := h.b0; omega)] at hp
    cases hp
  | succ k ih =>
    intro a b o l hk h p hp
    by_cases hb : 0 < b
    · rw [conv_step o l hb] at hp
      have hn := h.next hb
      have q4 := Int.emod_lt_of_pos a hb
      have q3 := Int.emod_nonneg a (show b ≠ 0 by omega)
      rcases List.mem_cons.1 hp with rfl | hp
      · refine ⟨hn.2, hn.1.l2, ?_, fun x y h1 h2 => ?_⟩
        · have hd := hn.1.det
          have hg1 := Int.gcd_dvd_left (nxt a b o l).1 (nxt a b o l).2
          have hg2 := Int.gcd_dvd_right (nxt a b o l).1 (nxt a b o l).2
          have hdv : ((Int.gcd (nxt a b o l).1 (nxt a b o l).2 : Nat) : Int) ∣ (nxt a b o l).1 * l.2 - l.1 * (nxt a b o l).2 := Int.dvd_sub (Int.dvd_mul_of_dvd_left hg1) (Int.dvd_mul_of_dvd_right hg2)
          rcases hd with hd | hd
          · rw [hd] at hdv
            have := Int.eq_one_of_dvd_one (by omega) hdv
            omega
          · rw [hd] at hdv
            have := Int.eq_one_of_dvd_one (by omega) ((Int.dvd_neg).1 hdv)
            omega
        · have := h.best hb h1 h2 (x := x)
          obtain ⟨s, hs, -, e2⟩ := hn.1.sign
          rw [e2]
          rcases hs with rfl | rfl <;> omega
      · exact ih _ _ _ _ (by omega) hn.1 p hp
    · rw [conv_end o l hb] at hp
      cases hp

theorem convs_best {n d : Int} (hn : 0 ≤ n) (hd : 1 ≤ d) : ∀ (i : Nat) (p : Int × Int), 1 ≤ i → (convs n d)[i]? = some p → BestC n d p := by
  intro i p hi hp
  unfold convs at hp
  rw [conv_step _ _ (by omega)] at hp
  obtain ⟨j, rfl⟩ : ∃ j, i = j + 1 := ⟨i - 1, by omega⟩
  rw [List.getElem?_cons_succ] at hp
  have e := Int.mul_ediv_add_emod n d
  have q3 := Int.emod_nonneg n (show d ≠ 0 by omega)
  have q4 := Int.emod_lt_of_pos n (show 0 < d by omega)
  have q5 : 0 ≤ n / d := Int.ediv_nonneg hn (by omega)
  refine conv_best (n := n) (d := d) (n % d).toNat d (n % d) (1, 0) (nxt n d (0, 1) (1, 0)) (Nat.le_refl _) ?_ p (List.mem_of_getElem? hp)
  have e1 : nxt n d (0, 1) (1, 0) = (n / d, 1) := by unfold nxt; simp
  rw [e1]
  refine ⟨⟨-1, .inr rfl, by simp only; omega, ?_⟩, .inr (by simp), by simp, by simp, by simpa using q5, by simp, by simp only; omega, q3, by omega⟩
  simp only
  have : n / d * d = d * (n / d) := Int.mul_comm _ _
  omega

/-- No pair of no greater denominator is nearer. -/
theorem BestC.far {n d : Int} {p : Int × Int} (h : BestC n d p) {x y : Int} (h1 : 1 ≤ y) (h2 : y ≤ p.2) : nearB n d (x, y) p = false := by
  obtain ⟨-, hp2, -, hb⟩ := h
  have := hb x y h1 h2
  unfold nearB offF
  rw [decide_eq_false_iff_not]
  simp only
  intro hlt
  have m1 : ((n * p.2 - p.1 * d).natAbs : Int) * y ≤ ((n * y - x * d).natAbs : Int) * y := Int.mul_le_mul_of_nonneg_right this (by omega)
  have m2 : ((n * y - x * d).natAbs : Int) * y ≤ ((n * y - x * d).natAbs : Int) * p.2 := Int.mul_le_mul_of_nonneg_left h2 (by omega)
  omega

end Go.Proofs.Ytoiconebcmneiab

end

section
/- The contract of Convergents of the program. -/
namespace Go.Proofs.Ytoiconebcmneiab
open Go.RowKit

def convErr (n d : Int) : Int := if fracErr n d ≠ 0 then fracErr n d else if n < 0 then 2 else 0

def ConvsPost (n d : Int) (w : World) (e : Ending) (w' : World) : Prop := Below w.heap.size w w' ∧ (convErr n d ≠ 0 → e = .returned (.tuple #[.slice none 0 0, .int .i64 (convErr n d)])) ∧
  (convErr n d = 0 → ∃ v, e = .returned (.tuple #[v, .int .i64 0]) ∧ w'.ownsRow w.heap.size 53 2 v (convs n d).length (cells2 (convs n d)))

theorem checkfrac_is (n d t : Int) (h : fracErr n d = t) (w : World) (h1 : -9223372036854775808 ≤ n) (h2 : n ≤ 9223372036854775807) (h3 : -9223372036854775808 ≤ d) (h4 : d ≤ 9223372036854775807) :
    Calls Try.prog 77 #[.agg #[.int .i64 n, .int .i64 d]] w fun e w' => e = .returned (.int .i64 t) ∧ Below w.heap.size w w' := h ▸ checkfrac_any n d w h1 h2 h3 h4

theorem fracErr_ok {n d : Int} (h : fracErr n d = 0) : 1 ≤ d ∧ d ≤ 1000000000 ∧ -1000000000 ≤ n ∧ n ≤ 1000000000 ∧ Int.gcd n d = 1 := by
  unfold fracErr at h
  split at h
  · exact absurd h (by decide)
  · split at h
    · exact absurd h (by decide)
    · rename_i h1 h2
      refine ⟨by omega, by omega, by omega, by omega, by omega⟩

set_option maxRecDepth 100000 in
set_option maxHeartbeats 1000000 in
theorem convs_any (n d : Int) (w : World) (h1 : -9223372036854775808 ≤ n) (h2 : n ≤ 9223372036854775807) (h3 : -9223372036854775808 ≤ d) (h4 : d ≤ 9223372036854775807) :
    Calls Try.prog 34 #[.agg #[.int .i64 n, .int .i64 d]] w (ConvsPost n d w) := by
  obtain ⟨E, hE⟩ : ∃ E, fracErr n d = E := ⟨_, rfl⟩
  have HE := Lib.hid hE
  by_cases h0 : E = 0
  rotate_left
  · have hne : (E != 0) = true := by simpa using h0
    have HC : Hid (convErr n d = E) := by show _ = _; unfold convErr; rw [if_pos (by rw [hE]; exact h0), hE]
    clear hE
    go_enter Try.func34, Try.ntmps34
    go_wp2_with (first | (go_at_call 77; refine (checkfrac_is n d E HE.out _ h1 h2 h3 h4).mono ?_; rintro e wk ⟨rfl, hb⟩))
    go_ret2
    refine ⟨((Below.refl _ _).alloc (Nat.le_refl _) _).trans (hb.mono (by simp)), fun _ => by rw [HC.out]; rfl, fun h => absurd (HC.out.symm.trans h) h0⟩
  subst h0
  obtain ⟨d1, d2, n1, n2, -⟩ := fracErr_ok hE
  by_cases hneg : n < 0
  · have HC : Hid (convErr n d = 2) := by show _ = _; unfold convErr; rw [if_neg (by rw [hE]; simp), if_pos hneg]
    clear hE
    go_enter Try.func34, Try.ntmps34
    go_wp2_with fail
    refine (checkfrac_is n d 0 HE.out _ h1 h2 h3 h4).mono ?_
    rintro e wk ⟨rfl, hb⟩
    have kb : Blk wk w.heap.size 53 #[.int .i64 n, .int .i64 d] := (Blk.at_ w rfl _ _).below hb (by simp)
    have y0 : wk.cell? ⟨w.heap.size, 0, none⟩ = some (.int .i64 n) := kb.cell 0
    go_wp2_with fail
    go_ret2
    refine ⟨((Below.refl _ _).alloc (Nat.le_refl _) _).trans (hb.mono (by simp)), fun _ => by rw [HC.out]; rfl, fun h => absurd (HC.out.symm.trans h) (by decide)⟩
  · have HC : Hid (convErr n d = 0) := by show _ = _; unfold convErr; rw [if_neg (by rw [hE]; simp), if_neg hneg]
    clear hE
    obtain ⟨i0, hi0, hz0, hz1, hz2⟩ := info_parts info_frac'
    have HI0 := Lib.hid hi0
    have HZ0 := Lib.hid hz0
    have HZ1 := Lib.hid hz1
    have HZ2 := Lib.hid hz2
    clear hi0 hz0 hz1 hz2
    go_enter Try.func34, Try.ntmps34
    go_wp2_with fail
    refine (checkfrac_is n d 0 HE.out _ h1 h2 h3 h4).mono ?_
    rintro e wk ⟨rfl, hb⟩
    have kb : Blk wk w.heap.size 53 #[.int .i64 n, .int .i64 d] := (Blk.at_ w rfl _ _).below hb (by simp)
    have y0 : wk.cell? ⟨w.heap.size, 0, none⟩ = some (.int .i64 n) := kb.cell 0
    have x0 : ∀ o p, ((wk.alloc o).alloc p).cell? ⟨w.heap.size, 0, none⟩ = some (.int .i64 n) := fun o p => ((kb.alloc o).alloc p).cell 0
    have x1 : ∀ o p, ((wk.alloc o).alloc p).cell? ⟨w.heap.size, 1, none⟩ = some (.int .i64 d) := fun o p => ((kb.alloc o).alloc p).cell 1
    have hb1 : Below w.heap.size w wk := ((Below.refl _ _).alloc (Nat.le_refl _) _).trans (hb.mono (by simp))
    have HB1 := Lib.hid hb1
    have hz1 := hb1.size
    clear hb hb1
    go_wp2_with fail
    go_quiet (fail)
    go_wp2
    go_loopw [5, 8, 9] (fun v x y wr => ∃ (out : List (Int × Int)) (a b : Int) (o l : Int × Int), x = .int .i64 a ∧ y = .int .i64 b ∧
      Step n d a b o l ∧ Hid (out ++ conv a b o l = convs n d) ∧ (out.length : Int) + b ≤ d ∧ Below w.heap.size w wr ∧ Blk wr wk.heap.size 53 #[.int .i64 o.1, .int .i64 o.2] ∧ Blk wr (wk.heap.size + 1) 53 #[.int .i64 l.1, .int .i64 l.2] ∧ wr.ownsRow (wk.heap.size + 2) 53 2 v out.length (cells2 out) ∧ wk.heap.size + 2 ≤ wr.heap.size) (fun _ _ y _ => (intOf y).toNat)
    case atStart =>
      refine ⟨[], n, d, (0, 1), (1, 0), rfl, rfl, Step.start (by omega) n2 d1, rfl, by simp, ?_, ?_, ?_, World.ownsRow_nil _ _ _ _, by simp⟩
      · exact below_drewN ((HB1.out.alloc hz1 _).alloc (by simp; omega) _) _
      · exact (((Blk.at_ wk rfl _ _).alloc _).drewN _)
      · exact ((Blk.at_ _ (by simp) _ _).drewN _)
    case round =>
      obtain ⟨out, a, b, ⟨o1, o2⟩, ⟨l1, l2⟩, rfl, rfl, hst, HL, hlen, hb, hk6, hk7, hown, hz⟩ := hrel
      have HB := Lib.hid hb
      have HOWN := Lib.hid hown
      have H6 := Lib.hid hk6
      have H7 := Lib.hid hk7
      clear hb hown hk6 hk7
      by_cases hpos : 0 < b
      · obtain ⟨hn1, q0, q1, q2, q3, q4, q5, q6⟩ := hst.next n2 d2 hpos
        have hcs := conv_step (o1, o2) (l1, l2) hpos (a := a)
        have HCS := Lib.hid hcs
        have HN := Lib.hid hn1
        have a0 := hst.a0
        have t1 : 0 ≤ o1 ∧ o1 ≤ 1000000000 := ⟨hst.o1, hst.k1⟩
        have t2 : 0 ≤ o2 ∧ o2 ≤ 1000000000 := ⟨hst.o2, hst.k2⟩
        have e1 : a.tdiv b = a / b := Int.tdiv_eq_ediv_of_nonneg a0
        have e2 : a.tmod b = a % b := Int.tmod_eq_emod_of_nonneg a0
        have b0 : ¬ b = 0 := by omega
        have b1 : b ≤ 1000000000 := by have := hst.bd; omega
        have a1 := hst.am
        have hq : a / b ≤ a := Int.ediv_le_self b a0
        simp only at q1 q2 q3 q4
        have w0 := IntWalk.i64_in (a / b) ⟨by omega, by omega⟩
        have w1' := IntWalk.i64_in (a / b * l1) ⟨by omega, by omega⟩
        have w2' := IntWalk.i64_in (a / b * l2) ⟨by omega, by omega⟩
        have w3' := IntWalk.i64_in (a / b * l1 + o1) ⟨by omega, by omega⟩
        have w4' := IntWalk.i64_in (a / b * l2 + o2) ⟨by omega, by omega⟩
        clear hcs hn1 hst
        go_wp2
        have b6 : Blk (wr.drewN 1) wk.heap.size 53 #[.int .i64 o1, .int .i64 o2] := H6.out.drewN 1
        have b7 : Blk (wr.drewN 1) (wk.heap.size + 1) 53 #[.int .i64 l1, .int .i64 l2] := H7.out.drewN 1
        obtain ⟨S0, hS0⟩ : ∃ S0, S0 = wr.drewN 1 := ⟨_, rfl⟩
        obtain ⟨S1, hS1⟩ : ∃ S1, S1 = (S0.setCell ⟨wk.heap.size, 0, none⟩ (.int .i64 l1)).setCell ⟨wk.heap.size, 1, none⟩ (.int .i64 l2) := ⟨_, rfl⟩
        obtain ⟨S2, hS2⟩ : ∃ S2, S2 = (S1.setCell ⟨wk.heap.size + 1, 0, none⟩ (.int .i64 (a / b * l1 + o1))).setCell ⟨wk.heap.size + 1, 1, none⟩ (.int .i64 (a / b * l2 + o2)) := ⟨_, rfl⟩
        rw [← hS0] at b6 b7
        have c6 : Blk S1 wk.heap.size 53 #[.int .i64 l1, .int .i64 l2] := by rw [hS1]; exact (b6.set_ 0 _).set_ 1 _
        have c7 : Blk S1 (wk.heap.size + 1) 53 #[.int .i64 l1, .int .i64 l2] := by rw [hS1]; exact (b7.far (by simp) _).far (by simp) _
        have d6 : Blk S2 wk.heap.size 53 #[.int .i64 l1, .int .i64 l2] := by rw [hS2]; exact (c6.far (by simp) _).far (by simp) _
        have d7 : Blk S2 (wk.heap.size + 1) 53 #[.int .i64 (a / b * l1 + o1), .int .i64 (a / b * l2 + o2)] := by rw [hS2]; exact (c7.set_ 0 _).set_ 1 _
        have HS0 := Lib.hid hS0
        have HS1 := Lib.hid hS1
        have HS2 := Lib.hid hS2
        clear hS0 hS1 hS2
        refine Fx.region (fun f w' => (w' = if f 21 then S2 else if f 20 then S1 else S0) ∧ True) (by kernel_rfl) (by kernel_rfl) ?_ ?_
        · intro f hf0
          rw [hf0 21, hf0 20]; exact ⟨HS0.out.symm, trivial⟩
        repeat (first
          | (refine Fx.skip_ (by rfl) (fun f w h => h) ?_; simp only [Act.put, List.setIfInBounds_toArray, List.set_cons_zero, List.set_cons_succ])
          | (refine Fx.val_ ?_ (by rfl) ?_ (fun f w h => h) ?_
             rotate_left
             · intro f w' hD hk
               obtain ⟨jw, _⟩ := id hD
               have h21 : f 21 = false := hk.2.1 21 (by kernel_rfl)
               rw [h21] at jw
               simp only [Bool.false_eq_true, if_false] at jw
               have z2 : w'.cell? ⟨wk.heap.size + 1, 0, none⟩ = some (.int .i64 l1) := by rw [jw]; split; exact c7.cell 0; exact b7.cell 0
               have z3 : w'.cell? ⟨wk.heap.size + 1, 1, none⟩ = some (.int .i64 l2) := by rw [jw]; split; exact c7.cell 1; exact b7.cell 1
               clear hk hD jw h21
               go_simp
               try rfl
             simp only [Act.put, List.setIfInBounds_toArray, List.set_cons_zero, List.set_cons_succ]))
        refine Fx.val_ ?_ (by rfl) ?_ (fun f w h => h) ?_
        rotate_left
        · intro f w' hD hk
          obtain ⟨jw, _⟩ := id hD
          have h20 : f 20 = false := hk.2.1 20 (by kernel_rfl)
          have h21 : f 21 = false := hk.2.1 21 (by kernel_rfl)
          rw [h20, h21] at jw
          simp only [Bool.false_eq_true, if_false] at jw
          have z0 : w'.cell? ⟨wk.heap.size, 0, none⟩ = some (.int .i64 o1) := by rw [jw]; exact b6.cell 0
          have z1 : w'.cell? ⟨wk.heap.size, 1, none⟩ = some (.int .i64 o2) := by rw [jw]; exact b6.cell 1
          clear hk hD jw h20 h21
          go_simp
          try rfl
        simp only [Act.put, List.setIfInBounds_toArray, List.set_cons_zero, List.set_cons_succ]
        repeat (first
          | (refine Fx.skip_ (by rfl) (fun f w h => h) ?_; simp only [Act.put, List.setIfInBounds_toArray, List.set_cons_zero, List.set_cons_succ])
          | (refine Fx.val_ ?_ (by rfl) ?_ (fun f w h => h) ?_
             rotate_left
             · intro f w' hD hk
               obtain ⟨jw, _⟩ := id hD
               have h21 : f 21 = false := hk.2.1 21 (by kernel_rfl)
               rw [h21] at jw
               simp only [Bool.false_eq_true, if_false] at jw
               have z2 : w'.cell? ⟨wk.heap.size + 1, 0, none⟩ = some (.int .i64 l1) := by rw [jw]; split; exact c7.cell 0; exact b7.cell 0
               have z3 : w'.cell? ⟨wk.heap.size + 1, 1, none⟩ = some (.int .i64 l2) := by rw [jw]; split; exact c7.cell 1; exact b7.cell 1
               clear hk hD jw h21
               go_simp
               try rfl
             simp only [Act.put, List.setIfInBounds_toArray, List.set_cons_zero, List.set_cons_succ]))
        refine Fx.val_ ?_ (by rfl) ?_ (fun f w h => h) ?_
        rotate_left
        · intro f w' hD hk
          obtain ⟨jw, _⟩ := id hD
          have h20 : f 20 = false := hk.2.1 20 (by kernel_rfl)
          have h21 : f 21 = false := hk.2.1 21 (by kernel_rfl)
          rw [h20, h21] at jw
          simp only [Bool.false_eq_true, if_false] at jw
          have z0 : w'.cell? ⟨wk.heap.size, 0, none⟩ = some (.int .i64 o1) := by rw [jw]; exact b6.cell 0
          have z1 : w'.cell? ⟨wk.heap.size, 1, none⟩ = some (.int .i64 o2) := by rw [jw]; exact b6.cell 1
          clear hk hD jw h20 h21
          go_simp
          try rfl
        simp only [Act.put, List.setIfInBounds_toArray, List.set_cons_zero, List.set_cons_succ]
        repeat (first
          | (refine Fx.skip_ (by rfl) (fun f w h => h) ?_; simp only [Act.put, List.setIfInBounds_toArray, List.set_cons_zero, List.set_cons_succ])
          | (refine Fx.val_ ?_ (by rfl) ?_ (fun f w h => h) ?_
             rotate_left
             · intro f w' hD hk
               obtain ⟨jw, _⟩ := id hD
               have h21 : f 21 = false := hk.2.1 21 (by kernel_rfl)
               rw [h21] at jw
               simp only [Bool.false_eq_true, if_false] at jw
               have z2 : w'.cell? ⟨wk.heap.size + 1, 0, none⟩ = some (.int .i64 l1) := by rw [jw]; split; exact c7.cell 0; exact b7.cell 0
               have z3 : w'.cell? ⟨wk.heap.size + 1, 1, none⟩ = some (.int .i64 l2) := by rw [jw]; split; exact c7.cell 1; exact b7.cell 1
               clear hk hD jw h21
               go_simp
               try rfl
             simp only [Act.put, List.setIfInBounds_toArray, List.set_cons_zero, List.set_cons_succ]))
        refine Fx.store_ (fun w' => S1) (by rfl) ?_ ?_ ?_
        · intro f w' hD hk
          obtain ⟨jw, _⟩ := id hD
          have h20 : f 20 = false := hk.1
          have h21 : f 21 = false := hk.2.1 21 (by kernel_rfl)
          rw [h20, h21] at jw
          simp only [Bool.false_eq_true, if_false] at jw
          subst jw
          rw [HS1.out]
          have z0 : w'.cell? ⟨wk.heap.size, 0, none⟩ = some (.int .i64 o1) := b6.cell 0
          have z1 : w'.cell? ⟨wk.heap.size, 1, none⟩ = some (.int .i64 o2) := b6.cell 1
          have z4 := b6.frozen 0
          have z5 := b6.frozen 1
          clear hk hD
          go_simp
        · intro f w' hD hk
          obtain ⟨jw, _⟩ := id hD
          have h20 : f 20 = false := hk.1
          have h21 : f 21 = false := hk.2.1 21 (by kernel_rfl)
          rw [h20, h21] at jw
          simp only [Bool.false_eq_true, if_false] at jw
          subst jw
          rw [HS1.out]
          exact ⟨by simp [Fx.add, h21], trivial⟩
        simp only [Act.put, List.setIfInBounds_toArray, List.set_cons_zero, List.set_cons_succ]
        repeat (first
          | (refine Fx.skip_ (by rfl) (fun f w h => h) ?_; simp only [Act.put, List.setIfInBounds_toArray, List.set_cons_zero, List.set_cons_succ])
          | (refine Fx.val_ ?_ (by rfl) ?_ (fun f w h => h) ?_
             rotate_left
             · intro f w' hD hk
               obtain ⟨jw, _⟩ := id hD
               clear hk hD jw
               go_simp
               try rfl
             simp only [Act.put, List.setIfInBounds_toArray, List.set_cons_zero, List.set_cons_succ]))
        refine Fx.store_ (fun w' => S2) (by rfl) ?_ ?_ ?_
        · intro f w' hD hk
          obtain ⟨jw, _⟩ := id hD
          have h20 : f 20 = true := hk.2.2.1 20 (by kernel_rfl)
          have h21 : f 21 = false := hk.1
          rw [h20, h21] at jw
          simp only [Bool.false_eq_true, if_false, if_true] at jw
          subst jw
          rw [HS2.out]
          have z0 : w'.cell? ⟨wk.heap.size + 1, 0, none⟩ = some (.int .i64 l1) := c7.cell 0
          have z1 : w'.cell? ⟨wk.heap.size + 1, 1, none⟩ = some (.int .i64 l2) := c7.cell 1
          have z4 := c7.frozen 0
          have z5 := c7.frozen 1
          clear hk hD
          go_simp
        · intro f w' hD hk
          obtain ⟨jw, _⟩ := id hD
          have h20 : f 20 = true := hk.2.2.1 20 (by kernel_rfl)
          have h21 : f 21 = false := hk.1
          rw [h20, h21] at jw
          simp only [Bool.false_eq_true, if_false, if_true] at jw
          subst jw
          rw [HS2.out]
          exact ⟨by simp [Fx.add], trivial⟩
        simp only [Act.put, List.setIfInBounds_toArray, List.set_cons_zero, List.set_cons_succ]
        refine Fx.nil_ ?_
        intro f w1 hall hD
        have hf21 := hall 21 (by simp)
        obtain ⟨jw, _⟩ := hD
        simp only [hf21, if_true] at *
        subst jw
        try clear hall
        have hbS : Below w.heap.size w w1 := by
          rw [HS2.out, HS1.out, HS0.out]
          exact ((((below_drewN HB.out 1).setCell (p := ⟨wk.heap.size, 0, none⟩) (by show _ ≤ wk.heap.size; omega) _).setCell (p := ⟨wk.heap.size, 1, none⟩) (by show _ ≤ wk.heap.size; omega) _).setCell (p := ⟨wk.heap.size + 1, 0, none⟩) (by show _ ≤ wk.heap.size + 1; omega) _).setCell (p := ⟨wk.heap.size + 1, 1, none⟩) (by show _ ≤ wk.heap.size + 1; omega) _
        have hoS : w1.ownsRow (wk.heap.size + 2) 53 2 u5 out.length (cells2 out) := by
          have hne : ∀ g, u5.ownBlock = some g → g ≠ wk.heap.size ∧ g ≠ wk.heap.size + 1 := fun g hg => by have := (own_lt HOWN.out hg).1; omega
          rw [HS2.out, HS1.out, HS0.out]
          exact own_set (own_set (own_set (own_set (own_drewN HOWN.out 1) (p := ⟨wk.heap.size, 0, none⟩) (fun e => (hne _ e).1 rfl) _) (p := ⟨wk.heap.size, 1, none⟩) (fun e => (hne _ e).1 rfl) _) (p := ⟨wk.heap.size + 1, 0, none⟩) (fun e => (hne _ e).2 rfl) _) (p := ⟨wk.heap.size + 1, 1, none⟩) (fun e => (hne _ e).2 rfl) _
        have hzS : wk.heap.size + 2 ≤ w1.heap.size := by rw [HS2.out, HS1.out, HS0.out]; simp [World.setCell]; omega
        have x2 : w1.cell? ⟨wk.heap.size + 1, 0, none⟩ = some (.int .i64 (a / b * l1 + o1)) := d7.cell 0
        have x3 : w1.cell? ⟨wk.heap.size + 1, 1, none⟩ = some (.int .i64 (a / b * l2 + o2)) := d7.cell 1
        have D6 := Lib.hid d6
        have D7 := Lib.hid d7
        clear HS0 HS1 HS2 b6 b7 c6 c7 d6 d7 x0 x1
        obtain ⟨W, hW⟩ : ∃ W, W = w1.alloc (.cells #[.int .i64 (a / b * l1 + o1), .int .i64 (a / b * l2 + o2)] 53) := ⟨_, rfl⟩
        have ho1 : W.ownsRow (wk.heap.size + 2) 53 2 u5 out.length (cells2 out) := by rw [hW]; exact hoS.alloc _
        have hnb : Blk W w1.heap.size 53 #[.int .i64 (a / b * l1 + o1), .int .i64 (a / b * l2 + o2)] := by rw [hW]; exact Blk.new _ _ _
        have hsz : W.heap.size = w1.heap.size + 1 := by rw [hW]; simp
        obtain ⟨v', W2, hrun, o2', hg2, hrow⟩ := run_append_any (P := Try.prog) W (wk.heap.size + 2) 49 49 53 i0 _ 2 16 Try.underlying49 HI0.out HZ0.out HZ1.out HZ2.out rfl (by omega) u5 out.length (cells2 out) ho1 W.heap.size (some ⟨w1.heap.size, 0, none⟩) 1 1 [.int .i64 (a / b * l1 + o1), .int .i64 (a / b * l2 + o2)] (Blk.reads hnb rfl) (by simp [Value.oneCell']) (by unfold maxLen; omega) (by omega) (by omega)
        have hvg : ∀ g, u5.ownBlock = some g → wk.heap.size + 2 ≤ g := fun g hg => (own_lt HOWN.out hg).1
        have hb2 : Below (wk.heap.size + 2) W W2 := (Below.refl _ _).grown hg2 (by omega) (fun k hk => hvg k hk)
        have hbW : Below (wk.heap.size + 2) w1 W := by rw [hW]; exact (Below.refl _ _).alloc (by omega) _
        have hbz : wk.heap.size + 2 ≤ W2.heap.size := by have := hb2.size; omega
        rw [hW] at hrun
        have HRUN := Lib.hid hrun
        have HB2 := Lib.hid (hbW.trans hb2)
        have HO2 := Lib.hid o2'
        have HBS := Lib.hid hbS
        clear hrun hg2 hrow hnb ho1 hW hsz hb2 o2' hbS hoS hbW
        go_wp2_with (first | (at_builtin; refine wpList_app _ W2 v' rfl _ _ _ rfl u5 (.slice (some ⟨w1.heap.size, 0, none⟩) 1 1) (by rfl) (by rfl) HRUN.out ?_))
        go_quiet (fail)
        go_wp2
        go_roundw
        case rel =>
          refine ⟨out ++ [(a / b * l1 + o1, a / b * l2 + o2)], b, a % b, (l1, l2), (a / b * l1 + o1, a / b * l2 + o2), rfl, rfl, HN.out, ?_, ?_, ?_, ?_, ?_, ?_, ?_⟩
          · show _ = _
            rw [← HL.out, HCS.out, List.append_assoc]
            rfl
          · simp; omega
          · exact below_drewN (HBS.out.trans (HB2.out.mono (by omega))) _
          · exact (D6.out.below HB2.out (by omega)).drewN _
          · exact (D7.out.below HB2.out (by omega)).drewN _
          · rw [List.length_append, cells2_append]
            exact HO2.out
          · simpa using hbz
        case measure => simp [intOf]; omega
      · have hb0 : b = 0 := by have := hst.b0; omega
        subst hb0
        have he := HL.out
        rw [conv_end _ _ hpos, List.append_nil] at he
        have HE := Lib.hid he
        clear he
        go_wp2
        go_ret2
        refine ⟨HB.out, fun h => absurd HC.out h, fun _ => ⟨_, rfl, ?_⟩⟩
        rw [← HE.out]
        exact own_base (by omega) HOWN.out

end Go.Proofs.Ytoiconebcmneiab

end

section
/- What holds of the convergents of a fraction. -/
namespace Go.Proofs.Ytoiconebcmneiab

def unit (x : Int) : Prop := x = 1 ∨ x = -1
/-- The cross products of two that follow each other differ by 1. -/
def Near (L : List (Int × Int)) : Prop := ∀ (i : Nat) (p q : Int × Int), L[i]? = some p → L[i + 1]? = some q → unit (q.1 * p.2 - p.1 * q.2)

theorem near_cons {x : Int × Int} {L : List (Int × Int)} (h : Near L) (h0 : ∀ y, L[0]? = some y → unit (y.1 * x.2 - x.1 * y.2)) : Near (x :: L) := by
  intro i p q hp hq
  cases i with
  | zero =>
    simp only [List.getElem?_cons_zero, Option.some.injEq] at hp
    subst hp
    simp only [Nat.zero_add, List.getElem?_cons_succ] at hq
    exact h0 q hq
  | succ i =>
    simp only [List.getElem?_cons_succ] at hp hq
    exact h i p q hp hq

theorem near_tail {x : Int × Int} {L : List (Int × Int)} (h : Near (x :: L)) : Near L := fun i p q hp hq => h (i + 1) p q (by simpa using hp) (by simpa using hq)

theorem conv_near (a b : Int) (o l : Int × Int) (hd : unit (l.1 * o.2 - o.1 * l.2)) : Near (l :: conv a b o l) := by
  induction a, b, o, l using conv.induct with
  | case1 a b o l hb ih =>
    rw [conv_step _ _ hb]
    have e : (nxt a b o l).1 * l.2 - l.1 * (nxt a b o l).2 = -(l.1 * o.2 - o.1 * l.2) := by
      simp only [nxt, Int.add_mul, Int.mul_add]
      have : l.1 * (a / b * l.2) = a / b * l.1 * l.2 := by rw [← Int.mul_assoc, Int.mul_comm l.1]
      omega
    have hu : unit ((nxt a b o l).1 * l.2 - l.1 * (nxt a b o l).2) := by
      rw [e]
      rcases hd with h | h
      · right; omega
      · left; omega
    refine near_cons (ih hu) fun y hy => ?_
    simp only [List.getElem?_cons_zero, Option.some.injEq] at hy
    subst hy
    exact hu
  | case2 a b o l hb =>
    rw [conv_end _ _ hb]
    intro i p q hp hq
    simp at hq

theorem conv_last (n d a b : Int) (o l : Int × Int) (h : Step n d a b o l) (hn : n ≤ 1000000000) (hdd : d ≤ 1000000000) (hg : Int.gcd a b = 1) (hb : 0 < b) : (conv a b o l).getLast? = some (n, d) := by
  induction a, b, o, l using conv.induct with
  | case1 a b o l hb ih =>
    rw [conv_step _ _ hb]
    obtain ⟨hs, -, -, -, -, -, hlt, h0⟩ := h.next hn hdd hb
    have hg' : Int.gcd b (a % b) = 1 := by
      have := gcd_tmod a b
      rw [Int.tmod_eq_emod_of_nonneg h.a0] at this
      rw [this, hg]
    by_cases hr : 0 < a % b
    · have := ih hs hg' hr
      rw [List.getLast?_cons, this]
      rfl
    · have hr0 : a % b = 0 := by omega
      rw [conv_end _ _ hr]
      rw [hr0] at hs hg'
      have hb1 : b = 1 := by
        rw [Int.gcd_zero_right] at hg'
        omega
      have h1 := hs.num
      have h2 := hs.den
      rw [hb1] at h1 h2
      simp only [Int.mul_one, Int.mul_zero, Int.add_zero] at h1 h2
      rw [hb1]
      simp only [List.getLast?_singleton, Option.some.injEq]
      exact Prod.ext h1 h2
  | case2 a b o l hb' => exact absurd hb hb'

theorem conv_parts (n d a b : Int) (o l : Int × Int) (h : Step n d a b o l) (hn : n ≤ 1000000000) (hdd : d ≤ 1000000000) : ∀ p ∈ conv a b o l, 0 ≤ p.1 ∧ p.1 ≤ 1000000000 ∧ 0 ≤ p.2 ∧ p.2 ≤ 1000000000 := by
  induction a, b, o, l using conv.induct with
  | case1 a b o l hb ih =>
    rw [conv_step _ _ hb]
    obtain ⟨hs, -⟩ := h.next hn hdd hb
    intro p hp
    rcases List.mem_cons.1 hp with rfl | hp
    · exact ⟨hs.l1, hs.m1, hs.l2, hs.m2⟩
    · exact ih hs p hp
  | case2 a b o l hb =>
    rw [conv_end _ _ hb]
    intro p hp
    cases hp

theorem conv_length (n d a b : Int) (o l : Int × Int) (h : Step n d a b o l) (hn : n ≤ 1000000000) (hdd : d ≤ 1000000000) : ((conv a b o l).length : Int) ≤ b := by
  induction a, b, o, l using conv.induct with
  | case1 a b o l hb ih =>
    rw [conv_step _ _ hb]
    obtain ⟨hs, -, -, -, -, -, hlt, h0⟩ := h.next hn hdd hb
    have := ih hs
    simp only [List.length_cons]
    omega
  | case2 a b o l hb =>
    rw [conv_end _ _ hb]
    exact h.b0

end Go.Proofs.Ytoiconebcmneiab

end
