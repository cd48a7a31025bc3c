/- The convergents of a fraction, as a plain function, and the contracts of both functions that return them. -/
import Derived.Test.YtmioamcgbihhjaaOwn
import Derived.Test.YtmioamcgbihhjaaFrac
import Derived.Test.YtmioamcgbihhjaaLists
namespace Go.Proofs.Ytmioamcgbihhjaa
open Go.RowKit

/-- The next convergent. -/
def nxt (a b : Int) (o l : Int × Int) : Int × Int := (a / b * l.1 + o.1, a / b * l.2 + o.2)
/-- The convergents from a step on. -/
def conv (a b : Int) (o l : Int × Int) : List (Int × Int) := if 0 < b then nxt a b o l :: conv b (a % b) l (nxt a b o l) else []
termination_by b.toNat
decreasing_by
  have := Int.emod_lt_of_pos a (by assumption : 0 < b)
  omega
def convs (n d : Int) : List (Int × Int) := conv n d (0, 1) (1, 0)

/-- What holds at a step of the search for the convergents of n / d. -/
structure Step (n d a b : Int) (o l : Int × Int) : Prop where
  a0 : 0 ≤ a
  b0 : 0 ≤ b
  bd : b ≤ d
  am : a ≤ 1000000000
  o1 : 0 ≤ o.1
  o2 : 0 ≤ o.2
  l1 : 0 ≤ l.1
  l2 : 0 ≤ l.2
  m1 : l.1 ≤ 1000000000
  m2 : l.2 ≤ 1000000000
  k1 : o.1 ≤ 1000000000
  k2 : o.2 ≤ 1000000000
  num : l.1 * a + o.1 * b = n
  den : l.2 * a + o.2 * b = d

theorem Step.start {n d : Int} (h1 : 0 ≤ n) (h2 : n ≤ 1000000000) (h3 : 1 ≤ d) : Step n d n d (0, 1) (1, 0) :=
  ⟨h1, by omega, Int.le_refl _, h2, by decide, by decide, by decide, by decide, by decide, by decide, by decide, by decide, by simp, by simp⟩

theorem le_mul_pos {x b : Int} (hx : 0 ≤ x) (hb : 1 ≤ b) : x ≤ x * b := by
  have := Int.mul_le_mul_of_nonneg_left hb hx
  omega

theorem Step.next {n d a b : Int} {o l : Int × Int} (h : Step n d a b o l) (hn : n ≤ 1000000000) (hd : d ≤ 1000000000) (hb : 0 < b) : Step n d b (a % b) l (nxt a b o l) ∧ 0 ≤ a / b ∧ a / b * l.1 ≤ 1000000000 ∧ a / b * l.2 ≤ 1000000000 ∧ 0 ≤ a / b * l.1 ∧ 0 ≤ a / b * l.2 ∧ a % b < b ∧ 0 ≤ a % b := by
  obtain ⟨a0, b0, bd, am, o1, o2, l1, l2, m1, m2, k1, k2, hnum, hden⟩ := h
  have q0 : 0 ≤ a / b := Int.ediv_nonneg a0 b0
  have hr0 := Int.emod_nonneg a (show b ≠ 0 by omega)
  have hr1 := Int.emod_lt_of_pos a hb
  have e := Int.mul_ediv_add_emod a b
  have p1 : 0 ≤ a / b * l.1 := Int.mul_nonneg q0 l1
  have p2 : 0 ≤ a / b * l.2 := Int.mul_nonneg q0 l2
  have r1 : 0 ≤ l.1 * (a % b) := Int.mul_nonneg l1 hr0
  have r2 : 0 ≤ l.2 * (a % b) := Int.mul_nonneg l2 hr0
  have n1 : (a / b * l.1 + o.1) * b + l.1 * (a % b) = n := by
    rw [← hnum]
    have : l.1 * a = l.1 * (b * (a / b) + a % b) := by rw [e]
    rw [this, Int.mul_add, Int.add_mul]
    have : l.1 * (b * (a / b)) = a / b * l.1 * b := by rw [Int.mul_comm b, ← Int.mul_assoc, Int.mul_comm l.1]
    omega
  have n2 : (a / b * l.2 + o.2) * b + l.2 * (a % b) = d := by
    rw [← hden]
    have : l.2 * a = l.2 * (b * (a / b) + a % b) := by rw [e]
    rw [this, Int.mul_add, Int.add_mul]
    have : l.2 * (b * (a / b)) = a / b * l.2 * b := by rw [Int.mul_comm b, ← Int.mul_assoc, Int.mul_comm l.2]
    omega
  have s1 := le_mul_pos (x := a / b * l.1 + o.1) (b := b) (by omega) (by omega)
  have s2 := le_mul_pos (x := a / b * l.2 + o.2) (b := b) (by omega) (by omega)
  refine ⟨⟨b0, hr0, by omega, by omega, l1, l2, by show 0 ≤ a / b * l.1 + o.1; omega, by show 0 ≤ a / b * l.2 + o.2; omega, by show a / b * l.1 + o.1 ≤ _; omega, by show a / b * l.2 + o.2 ≤ _; omega, m1, m2, n1, n2⟩, q0, by omega, by omega, p1, p2, hr1, hr0⟩

theorem conv_step {a b : Int} (o l : Int × Int) (hb : 0 < b) : conv a b o l = nxt a b o l :: conv b (a % b) l (nxt a b o l) := by rw [conv, if_pos hb]
theorem conv_end {a b : Int} (o l : Int × Int) (hb : ¬ 0 < b) : conv a b o l = [] := by rw [conv, if_neg hb]

def ConvPost (n d : Int) (w : World) (e : Ending) (w' : World) : Prop := Below w.heap.size w w' ∧ ∃ v, e = .returned v ∧ w'.ownsRow w.heap.size 23 2 v (convs n d).length (cells2 (convs n d))

theorem info_frac' : (Try.prog.info? 23).map (fun i => (i.zero, i.size, i.bytes)) = some (some (.agg #[.int .i64 0, .int .i64 0]), 2, 16) := by kernel_rfl

set_option maxRecDepth 100000 in
set_option maxHeartbeats 1000000 in
theorem convref_any (n d : Int) (w : World) (h1 : 0 ≤ n) (h2 : n ≤ 1000000000) (h3 : 1 ≤ d) (h4 : d ≤ 1000000000) :
    Calls Try.prog 19 #[.agg #[.int .i64 n, .int .i64 d]] w (ConvPost n d w) := by
  obtain ⟨i0, hi0, hz0, hz1, hz2⟩ := info_parts info_frac'
  have HI0 := Lib.hid hi0
  have HZ0 := Lib.hid hz0
  have HZ1 := Lib.hid hz1
  have HZ2 := Lib.hid hz2
  clear hi0 hz0 hz1 hz2
  go_enter Try.func19, Try.ntmps19
  go_wp2
  go_quiet (fail)
  go_wp2
  go_loopw [3, 4, 5, 6, 7, 8, 9] (fun v p pb q qb x y wr => ∃ (out : List (Int × Int)) (a b : Int) (o l : Int × Int), p = .int .i64 l.1 ∧ pb = .int .i64 o.1 ∧ q = .int .i64 l.2 ∧ qb = .int .i64 o.2 ∧ x = .int .i64 a ∧ y = .int .i64 b ∧
    Step n d a b o l ∧ Hid (out ++ conv a b o l = convs n d) ∧ (out.length : Int) + b ≤ d ∧ Below w.heap.size w wr ∧ wr.ownsRow w.heap.size 23 2 v out.length (cells2 out)) (fun _ _ _ _ _ _ y _ => (intOf y).toNat)
  case atStart =>
    refine ⟨[], n, d, (0, 1), (1, 0), rfl, rfl, rfl, rfl, rfl, rfl, Step.start h1 h2 h3, rfl, by simp, ?_, World.ownsRow_nil _ _ _ _⟩
    repeat' (first | exact Below.refl _ _ | refine below_drewN ?_ _ | refine Below.alloc ?_ (by first | omega | (simp; done) | (simp; omega)) _)
  case round =>
    obtain ⟨out, a, b, ⟨o1, o2⟩, ⟨l1, l2⟩, rfl, rfl, rfl, rfl, rfl, rfl, hst, HL, hlen, hb, hown⟩ := hrel
    have HB := Lib.hid hb
    have HOWN := Lib.hid hown
    clear hb hown
    by_cases hpos : 0 < b
    · have hn := hst.next h2 h4 hpos
      obtain ⟨hn1, q0, q1, q2, q3, q4, q5, q6⟩ := hn
      have hcs := conv_step (o1, o2) (l1, l2) hpos (a := a)
      have HCS := Lib.hid hcs
      have HN := Lib.hid hn1
      have a0 := hst.a0
      have t1 : 0 ≤ o1 ∧ o1 ≤ 1000000000 := ⟨hst.o1, hst.k1⟩
      have t2 : 0 ≤ o2 ∧ o2 ≤ 1000000000 := ⟨hst.o2, hst.k2⟩
      have e1 : a.tdiv b = a / b := Int.tdiv_eq_ediv_of_nonneg a0
      have e2 : a.tmod b = a % b := Int.tmod_eq_emod_of_nonneg a0
      have b0 : ¬ b = 0 := by omega
      have b1 : b ≤ 1000000000 := by have := hst.bd; omega
      have a1 := hst.am
      have hq : a / b ≤ a := Int.ediv_le_self b a0
      simp only at q1 q2 q3 q4
      clear hcs hn1 hst
      obtain ⟨W, hW⟩ : ∃ W, W = wr.alloc (.cells #[.int .i64 (a / b * l1 + o1), .int .i64 (a / b * l2 + o2)] 23) := ⟨_, rfl⟩
      have ho1 : W.ownsRow w.heap.size 23 2 u3 out.length (cells2 out) := by rw [hW]; exact HOWN.out.alloc _
      have hnb : Blk W wr.heap.size 23 #[.int .i64 (a / b * l1 + o1), .int .i64 (a / b * l2 + o2)] := by rw [hW]; exact Blk.new _ _ _
      have hsz : W.heap.size = wr.heap.size + 1 := by rw [hW]; simp
      have hbs := HB.out.size
      obtain ⟨v', W2, hrun, o2', hg2, hrow⟩ := run_append_any (P := Try.prog) W w.heap.size 25 25 23 i0 _ 2 16 Try.underlying25 HI0.out HZ0.out HZ1.out HZ2.out rfl (by omega) u3 out.length (cells2 out) ho1 W.heap.size (some ⟨wr.heap.size, 0, none⟩) 1 1 [.int .i64 (a / b * l1 + o1), .int .i64 (a / b * l2 + o2)] (Blk.reads hnb rfl) (by simp [Value.oneCell']) (by unfold maxLen; omega) (by omega) (by omega)
      rw [hW] at hrun
      have HRUN := Lib.hid hrun
      have hb2 := ((Below.refl w.heap.size w).trans (HB.out.alloc HB.out.size (.cells #[.int .i64 (a / b * l1 + o1), .int .i64 (a / b * l2 + o2)] 23))).grown (hW ▸ hg2) (by simp; omega) (fun k hk => (own_lt HOWN.out hk).1)
      have HB2 := Lib.hid hb2
      have HO2 := Lib.hid o2'
      clear hrun hg2 hrow hnb ho1 hW hsz hb2 o2'
      go_wp2_with (first | (at_builtin; refine wpList_app _ W2 v' rfl _ _ _ rfl _ _ rfl rfl HRUN.out ?_))
      go_quiet (fail)
      go_wp2
      go_roundw
      case rel =>
        refine ⟨out ++ [(a / b * l1 + o1, a / b * l2 + o2)], b, a % b, (l1, l2), (a / b * l1 + o1, a / b * l2 + o2), rfl, rfl, rfl, rfl, rfl, rfl, HN.out, ?_, ?_, ?_, ?_⟩
        · show _ = _
          rw [← HL.out, HCS.out, List.append_assoc]
          rfl
        · simp; omega
        · exact below_drewN HB2.out _
        · rw [List.length_append, cells2_append]
          exact HO2.out
      case measure => simp [intOf]; omega
    · have he := HL.out
      rw [conv_end _ _ hpos, List.append_nil] at he
      have HE := Lib.hid he
      clear he
      go_wp2
      go_ret
      refine ⟨HB.out, _, rfl, ?_⟩
      rw [← HE.out]
      exact HOWN.out

end Go.Proofs.Ytmioamcgbihhjaa
