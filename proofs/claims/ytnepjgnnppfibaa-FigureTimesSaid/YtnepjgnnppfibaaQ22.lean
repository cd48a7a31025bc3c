import Derived.Test.YtnepjgnnppfibaaQ21
import Derived.Test.YtnepjgnnppfibaaQ6

section
/- The walk of the statement on how often a session can be made. -/
namespace Go.Proofs.Ytnepjgnnppfibaa
open Go Go.RowKit

/-- A list of lists, all in memory of its own. -/
structure TabOwn (w : World) (base : Nat) (o : Value) (k : Nat) (ts : List TRow) : Prop where
  row : w.ownsRow base 22 1 o k (ts.map TRow.val)
  each : ∀ r ∈ ts, w.ownsRow base 3 1 r.val r.n (r.xs.map (.int .i64))
theorem TabOwn.nil (w : World) (base : Nat) : TabOwn w base (.slice none 0 0) 0 [] := ⟨World.ownsRow_nil _ _ _ _, by simp⟩
theorem TabOwn.reads {w : World} {base k : Nat} {o : Value} {ts : List TRow} (h : TabOwn w base o k ts) : ∃ A c, o = .slice A k c ∧ ReadsT w w.heap.size A k ts := by
  obtain ⟨A, c, rfl, hr⟩ := own_reads h.row
  exact ⟨A, c, rfl, hr, fun r hr => ⟨own_cap (h.each r hr), own_reads2 (h.each r hr)⟩⟩
theorem TabOwn.below {w w' : World} {base k : Nat} {o : Value} {ts : List TRow} (h : TabOwn w base o k ts) (hb : Below w.heap.size w w') : TabOwn w' base o k ts := ⟨own_below h.row hb (Nat.le_refl _), fun r hr => own_below (h.each r hr) hb (Nat.le_refl _)⟩
/-- One list more: the literal and the append. -/
theorem TabOwn.snoc {w1 : World} {base k n c1 : Nat} {o : Value} {ts : List TRow} {A1 : Option Addr} {xs : List Int} (h : TabOwn w1 base o k ts) (hn : w1.ownsRow base 3 1 (.slice A1 n c1) n (xs.map (.int .i64))) (hb : base ≤ w1.heap.size) (hk : k ≤ 100000) :
    ∃ v' W2, (Builtin.append_ #[93, 93] 93 #[o, .slice (some ⟨w1.heap.size, 0, none⟩) 1 1]).run Try.prog (w1.alloc (.cells #[.slice A1 n c1] 22)) = .ok v' W2 ∧ TabOwn W2 base v' (k + 1) (ts ++ [⟨A1, n, c1, xs⟩]) ∧ Below base w1 W2 := by
  obtain ⟨i0, hi0, hz0, hz1, hz2⟩ := info_parts info_ints
  obtain ⟨W, hW⟩ : ∃ W, W = w1.alloc (.cells #[.slice A1 n c1] 22) := ⟨_, rfl⟩
  have hoW : W.ownsRow base 22 1 o k (ts.map TRow.val) := by rw [hW]; exact h.row.alloc _
  have hnb : Blk W w1.heap.size 22 #[.slice A1 n c1] := by rw [hW]; exact Blk.new _ _ _
  have hsz : W.heap.size = w1.heap.size + 1 := by rw [hW]; simp
  have hrW : ∀ r' ∈ ts, W.ownsRow base 3 1 r'.val r'.n (r'.xs.map (.int .i64)) := fun r' hr' => by rw [hW]; exact (h.each r' hr').alloc _
  have hnW : W.ownsRow base 3 1 (.slice A1 n c1) n (xs.map (.int .i64)) := by rw [hW]; exact hn.alloc _
  have hbW : Below base w1 W := by rw [hW]; exact (Below.refl _ _).alloc hb _
  obtain ⟨v', W2, hrun, o2', hg2, hrow⟩ := run_append_any (P := Try.prog) W base 93 93 22 i0 _ 1 24 Try.underlying93 hi0 hz0 hz1 hz2 rfl (by omega) o k _ hoW W.heap.size (some ⟨w1.heap.size, 0, none⟩) 1 1 [.slice A1 n c1] (Blk.reads hnb rfl) (by simp [Value.oneCell']) (by unfold maxLen; omega) (by omega) (by omega)
  rw [hW] at hrun
  refine ⟨v', W2, hrun, ⟨?_, ?_⟩, hbW.grown hg2 (by omega) (fun g hg => (own_lt hoW hg).1)⟩
  · rw [List.map_append]; exact o2'
  · intro r' hr'
    rcases List.mem_append.1 hr' with h | h
    · exact own_apart (hrW r' h) hoW (by decide) hg2
    · obtain rfl : r' = ⟨A1, n, c1, xs⟩ := by simpa using h
      exact own_apart hnW hoW (by decide) hg2

section
variable {h v l : List Int} {b : Int}
theorem left_rep {N k i : Nat} (hk : k ≤ N) : leftF h (List.replicate N l) k i = h.getD i 0 - (k : Int) * l.getD i 0 := by
  induction k with
  | zero => rw [leftF_zero]; omega
  | succ k ih =>
    rw [leftF_succ, ih (by omega)]
    have : (List.replicate N l).getD k [] = l := getD_of (by rw [List.getElem?_replicate, if_pos (by omega)])
    rw [this]
    have e : ((k + 1 : Nat) : Int) * l.getD i 0 = (k : Int) * l.getD i 0 + l.getD i 0 := by push_cast; rw [Int.add_mul, Int.one_mul]
    omega
/-- What a number of times means. -/
theorem most_ok (hm : mostF h v l = (b, 0)) : twoErr h v = 0 ∧ wearErr h.length l = 0 ∧ digB h.length h v = false ∧ 0 ≤ b ∧ (∀ i, i < h.length → b * l.getD i 0 ≤ h.getD i 0 - v.getD i 0) ∧ (∃ i, i < h.length ∧ h.getD i 0 - v.getD i 0 < (b + 1) * l.getD i 0) := by
  unfold mostF at hm
  by_cases h1 : twoErr h v ≠ 0
  · rw [if_pos h1] at hm; exact absurd (Prod.mk.inj hm).2 h1
  rw [if_neg h1] at hm
  by_cases h2 : wearErr h.length l ≠ 0
  · rw [if_pos h2] at hm; exact absurd (Prod.mk.inj hm).2 h2
  rw [if_neg h2] at hm
  cases h3 : digB h.length h v with
  | true => rw [h3, if_pos rfl] at hm; exact absurd (Prod.mk.inj hm).2 (by decide)
  | false =>
    rw [h3, if_neg (by simp)] at hm
    by_cases h4 : mostTo h v l h.length < 0
    · rw [if_pos h4] at hm; exact absurd (Prod.mk.inj hm).2 (by decide)
    rw [if_neg h4] at hm
    have hb := (Prod.mk.inj hm).1
    have h1' := Decidable.not_not.1 h1
    have h2' := Decidable.not_not.1 h2
    obtain ⟨hE0, hvh, hE0v⟩ := two_ok h1'
    obtain ⟨n1, n2, hh⟩ := heights_ok hE0
    obtain ⟨-, -, hvv⟩ := heights_ok hE0v
    obtain ⟨hxl, hxs⟩ := wear_ok h2'
    have hdd : ∀ i, i < h.length → v.getD i 0 ≤ h.getD i 0 ∧ h.getD i 0 - v.getD i 0 ≤ 200000 := fun i hi => by
      have a1 := dig_false h3 i hi
      have a2 := getD_in (i := i) (by omega) hh
      have a3 := getD_in (i := i) (by omega) hvv
      exact ⟨a1, by omega⟩
    obtain ⟨-, i2, i3⟩ := most_le hdd hxs h.length (Nat.le_refl _)
    rw [hb] at i2 i3 h4
    refine ⟨h1', h2', rfl, by omega, fun i hi => ?_, ?_⟩
    · have hlk := getD_in (i := i) (by omega) hxs
      by_cases h0 : l.getD i 0 = 0
      · rw [h0, Int.mul_zero]; have := hdd i hi; omega
      · exact (Int.le_ediv_iff_mul_le (by omega)).1 (i2 i hi h0)
    · obtain ⟨i, hi, h0, he⟩ := i3 (by omega)
      have hlk := getD_in (i := i) (by omega) hxs
      refine ⟨i, hi, ?_⟩
      rw [he]
      have := Int.lt_mul_ediv_self_add (x := h.getD i 0 - v.getD i 0) (k := l.getD i 0) (by omega)
      rw [Int.add_mul, Int.one_mul, Int.mul_comm]
      exact this
theorem rep_bad {N q : Nat} (hw : wearErr h.length l = 0) (hq : q < N) : sessBad h.length h v (List.replicate N l) q = digB h.length (tabL h.length fun i => h.getD i 0 - ((q + 1 : Nat) : Int) * l.getD i 0) v := by
  unfold sessBad
  have : (List.replicate N l).getD q [] = l := getD_of (by rw [List.getElem?_replicate, if_pos hq])
  rw [this, hw, tabL_congr (g := fun i => h.getD i 0 - ((q + 1 : Nat) : Int) * l.getD i 0) (fun i _ => left_rep (by omega))]
  simp
theorem rep_fine {N q bn : Nat} (hm : mostF h v l = ((bn : Int), 0)) (hq : q < N) (hqb : q < bn) : sessBad h.length h v (List.replicate N l) q = false := by
  obtain ⟨m1, m2, m3, m4, m5, m6⟩ := most_ok hm
  rw [rep_bad m2 hq]
  refine dig_no fun k hk => ?_
  rw [tabL_getD _ hk]
  have h1 := m5 k hk
  have hlk := getD_in (i := k) (by omega) (wear_ok m2).2
  have h2 : ((q + 1 : Nat) : Int) * l.getD k 0 ≤ (bn : Int) * l.getD k 0 := Int.mul_le_mul_of_nonneg_right (by omega) hlk.1
  omega
theorem rep_dug {N bn : Nat} (hm : mostF h v l = ((bn : Int), 0)) (hq : bn < N) : sessBad h.length h v (List.replicate N l) bn = true := by
  obtain ⟨m1, m2, m3, m4, m5, i, hi, m6⟩ := most_ok hm
  rw [rep_bad m2 hq]
  obtain ⟨-, hvh, -⟩ := two_ok m1
  refine dig_yes hi (tabL_get _ hi) (List.getElem?_eq_getElem (by omega)) ?_
  rw [← getD_of (d := 0) (List.getElem?_eq_getElem (show i < v.length by omega))]
  have e : ((bn + 1 : Nat) : Int) = (bn : Int) + 1 := by omega
  rw [e]
  omega
theorem sess_rep {bn : Nat} (hm : mostF h v l = ((bn : Int), 0)) (hb : bn ≤ 20) : sessF h v (List.replicate bn l) = (0, 0) ∧ sessF h v (List.replicate (bn + 1) l) = ((bn : Int), 26) := by
  obtain ⟨m1, m2, m3, -⟩ := most_ok hm
  refine ⟨sess_none m1 (by rw [List.length_replicate]; omega) rfl m3 (fun q hq => ?_), ?_⟩
  · rw [List.length_replicate] at hq
    exact rep_fine hm hq hq
  · rw [sess_at (k := bn) m1 (by rw [List.length_replicate]; omega) rfl m3 (by rw [List.length_replicate]; omega) (fun q hq => rep_fine hm (by omega) hq) (rep_dug hm (by omega))]
    have : (List.replicate (bn + 1) l).getD bn [] = l := getD_of (by rw [List.getElem?_replicate, if_pos (by omega)])
    rw [this, m2]
    rfl
end

set_option maxRecDepth 100000 in
set_option maxHeartbeats 4000000 in
theorem lawFU_any (A : Option Addr) (n c : Nat) (h : List Int) (V : Option Addr) (nv cv : Nat) (v : List Int) (B : Option Addr) (m d : Nat) (l : List Int) (w : World) (hnc : n ≤ c ∧ c ≤ 9223372036854775807) (_ : h.length = n) (_ : ∀ z ∈ h, I64 z) (hx : Reads w w.heap.size 1 A n (h.map (.int .i64)))
    (hnv : nv ≤ cv ∧ cv ≤ 9223372036854775807) (_ : v.length = nv) (_ : ∀ z ∈ v, I64 z) (hv : Reads w w.heap.size 1 V nv (v.map (.int .i64)))
    (hmd : m ≤ d ∧ d ≤ 9223372036854775807) (_ : l.length = m) (_ : ∀ z ∈ l, I64 z) (hy : Reads w w.heap.size 1 B m (l.map (.int .i64))) :
    Calls Try.prog 15 #[.slice A n c, .slice V nv cv, .slice B m d] w fun e w' => e = .returned (.bool true) ∧ Below w.heap.size w w' := by
  have HX := Lib.hid hx
  have HV := Lib.hid hv
  have HY := Lib.hid hy
  clear hx hv hy
  by_cases hn45 : n ≤ 45
  rotate_left
  · have hd2 : decide ((45 : Int) < (n : Int)) = true := by simp; omega
    go_enter Try.func15, Try.ntmps15
    go_wp2_with fail
    refine (awake6_any _).mono ?_
    rintro e w1 ⟨rfl, hb⟩
    have HB1 := Lib.hid (show Below w.heap.size w w1 from step_below hb (by repeat' (first | exact Below.refl _ _ | exact HB0.out | refine below_drewN ?_ _ | refine Below.drew ?_ | refine Below.alloc ?_ (by first | omega | (simp; done) | (simp; omega) | (simp [World.setCell]; omega)) _ | refine Below.setCell ?_ (by first | omega | (simp; done) | (simp; omega)) _ | assumption)))
    have hz1 := hb.size
    try simp only [World.size_alloc, World.drewN, World.drew] at hz1
    clear hb
    go_wp2
    go_ret
    exact ⟨rfl, by repeat' (first | exact Below.refl _ _ | exact HB1.out | refine below_drewN ?_ _ | refine Below.drew ?_ | refine Below.alloc ?_ (by first | omega | (simp; done) | (simp; omega) | (simp [World.setCell]; omega)) _ | refine Below.setCell ?_ (by first | omega | (simp; done) | (simp; omega)) _ | assumption)⟩
  have hd2 : decide ((45 : Int) < (n : Int)) = false := by simp; omega
  by_cases hv45 : nv ≤ 45
  rotate_left
  · have hd3 : decide ((45 : Int) < (nv : Int)) = true := by simp; omega
    go_enter Try.func15, Try.ntmps15
    go_wp2_with fail
    refine (awake6_any _).mono ?_
    rintro e w1 ⟨rfl, hb⟩
    have HB1 := Lib.hid (show Below w.heap.size w w1 from step_below hb (by repeat' (first | exact Below.refl _ _ | exact HB0.out | refine below_drewN ?_ _ | refine Below.drew ?_ | refine Below.alloc ?_ (by first | omega | (simp; done) | (simp; omega) | (simp [World.setCell]; omega)) _ | refine Below.setCell ?_ (by first | omega | (simp; done) | (simp; omega)) _ | assumption)))
    have hz1 := hb.size
    try simp only [World.size_alloc, World.drewN, World.drew] at hz1
    clear hb
    go_wp2
    go_ret
    exact ⟨rfl, by repeat' (first | exact Below.refl _ _ | exact HB1.out | refine below_drewN ?_ _ | refine Below.drew ?_ | refine Below.alloc ?_ (by first | omega | (simp; done) | (simp; omega) | (simp [World.setCell]; omega)) _ | refine Below.setCell ?_ (by first | omega | (simp; done) | (simp; omega)) _ | assumption)⟩
  have hd3 : decide ((45 : Int) < (nv : Int)) = false := by simp; omega
  by_cases hm45 : m ≤ 45
  rotate_left
  · have hd4 : decide ((45 : Int) < (m : Int)) = true := by simp; omega
    go_enter Try.func15, Try.ntmps15
    go_wp2_with fail
    refine (awake6_any _).mono ?_
    rintro e w1 ⟨rfl, hb⟩
    have HB1 := Lib.hid (show Below w.heap.size w w1 from step_below hb (by repeat' (first | exact Below.refl _ _ | exact HB0.out | refine below_drewN ?_ _ | refine Below.drew ?_ | refine Below.alloc ?_ (by first | omega | (simp; done) | (simp; omega) | (simp [World.setCell]; omega)) _ | refine Below.setCell ?_ (by first | omega | (simp; done) | (simp; omega)) _ | assumption)))
    have hz1 := hb.size
    try simp only [World.size_alloc, World.drewN, World.drew] at hz1
    clear hb
    go_wp2
    go_ret
    exact ⟨rfl, by repeat' (first | exact Below.refl _ _ | exact HB1.out | refine below_drewN ?_ _ | refine Below.drew ?_ | refine Below.alloc ?_ (by first | omega | (simp; done) | (simp; omega) | (simp [World.setCell]; omega)) _ | refine Below.setCell ?_ (by first | omega | (simp; done) | (simp; omega)) _ | assumption)⟩
  have hd4 : decide ((45 : Int) < (m : Int)) = false := by simp; omega
  obtain ⟨⟨q1, q2⟩, hR⟩ : ∃ R, mostF h v l = R := ⟨_, rfl⟩
  have HR := Lib.hid hR
  have e1 : (q1 != q1) = false := by simp
  have e2 : (q2 != q2) = false := by simp
  clear hR
  go_enter Try.func15, Try.ntmps15
  go_wp2_with fail
  refine (awake6_any _).mono ?_
  rintro e w1 ⟨rfl, hb⟩
  have HB1 := Lib.hid (show Below w.heap.size w w1 from step_below hb (by repeat' (first | exact Below.refl _ _ | exact HB0.out | refine below_drewN ?_ _ | refine Below.drew ?_ | refine Below.alloc ?_ (by first | omega | (simp; done) | (simp; omega) | (simp [World.setCell]; omega)) _ | refine Below.setCell ?_ (by first | omega | (simp; done) | (simp; omega)) _ | assumption)))
  have hz1 := hb.size
  try simp only [World.size_alloc, World.drewN, World.drew] at hz1
  clear hb
  have hx := (HX.out.below HB1.out).more HB1.out.size
  have hv := (HV.out.below HB1.out).more HB1.out.size
  have hy := (HY.out.below HB1.out).more HB1.out.size
  have R0_1 := Lib.hid hx
  clear hx
  have R1_1 := Lib.hid hv
  clear hv
  have R2_1 := Lib.hid hy
  clear hy
  go_wp2_with fail
  refine (copyJ_any A n c h _ R0_1.out (by omega)).mono ?_
  rintro e w2 ⟨A2, c2, rfl, hb, hr2⟩
  have HB2 := Lib.hid (show Below w.heap.size w w2 from step_below hb (by repeat' (first | exact Below.refl _ _ | exact HB1.out | refine below_drewN ?_ _ | refine Below.drew ?_ | refine Below.alloc ?_ (by first | omega | (simp; done) | (simp; omega) | (simp [World.setCell]; omega)) _ | refine Below.setCell ?_ (by first | omega | (simp; done) | (simp; omega)) _ | assumption)))
  have hL2 := Lib.hid (show Below w1.heap.size w1 _ from reads_mid hb (by repeat' (first | exact Below.refl _ _ | refine below_drewN ?_ _ | refine Below.drew ?_ | refine Below.alloc ?_ (by first | omega | (simp; done) | (simp; omega) | (simp [World.setCell]; omega)) _ | refine Below.setCell ?_ (by first | omega | (simp; done) | (simp; omega)) _)))
  have R0_2 := Lib.hid (reads_lay hb hL2.out R0_1.out)
  have R1_2 := Lib.hid (reads_lay hb hL2.out R1_1.out)
  have R2_2 := Lib.hid (reads_lay hb hL2.out R2_1.out)
  clear hL2 R0_1 R1_1 R2_1
  have hz2 := hb.size
  try simp only [World.size_alloc, World.drewN, World.drew] at hz2
  clear hb
  have R3_2 := Lib.hid hr2
  clear hr2
  go_wp2_with fail
  refine (copyJ_any V nv cv v _ R1_2.out (by omega)).mono ?_
  rintro e w3 ⟨A3, c3, rfl, hb, hr3⟩
  have HB3 := Lib.hid (show Below w.heap.size w w3 from step_below hb (by repeat' (first | exact Below.refl _ _ | exact HB2.out | refine below_drewN ?_ _ | refine Below.drew ?_ | refine Below.alloc ?_ (by first | omega | (simp; done) | (simp; omega) | (simp [World.setCell]; omega)) _ | refine Below.setCell ?_ (by first | omega | (simp; done) | (simp; omega)) _ | assumption)))
  have hL3 := Lib.hid (show Below w2.heap.size w2 _ from reads_mid hb (by repeat' (first | exact Below.refl _ _ | refine below_drewN ?_ _ | refine Below.drew ?_ | refine Below.alloc ?_ (by first | omega | (simp; done) | (simp; omega) | (simp [World.setCell]; omega)) _ | refine Below.setCell ?_ (by first | omega | (simp; done) | (simp; omega)) _)))
  have R0_3 := Lib.hid (reads_lay hb hL3.out R0_2.out)
  have R1_3 := Lib.hid (reads_lay hb hL3.out R1_2.out)
  have R2_3 := Lib.hid (reads_lay hb hL3.out R2_2.out)
  have R3_3 := Lib.hid (reads_lay hb hL3.out R3_2.out)
  clear hL3 R0_2 R1_2 R2_2 R3_2
  have hz3 := hb.size
  try simp only [World.size_alloc, World.drewN, World.drew] at hz3
  clear hb
  have R4_3 := Lib.hid hr3
  clear hr3
  go_wp2_with fail
  refine (copyJ_any B m d l _ R2_3.out (by omega)).mono ?_
  rintro e w4 ⟨A4, c4, rfl, hb, hr4⟩
  have HB4 := Lib.hid (show Below w.heap.size w w4 from step_below hb (by repeat' (first | exact Below.refl _ _ | exact HB3.out | refine below_drewN ?_ _ | refine Below.drew ?_ | refine Below.alloc ?_ (by first | omega | (simp; done) | (simp; omega) | (simp [World.setCell]; omega)) _ | refine Below.setCell ?_ (by first | omega | (simp; done) | (simp; omega)) _ | assumption)))
  have hL4 := Lib.hid (show Below w3.heap.size w3 _ from reads_mid hb (by repeat' (first | exact Below.refl _ _ | refine below_drewN ?_ _ | refine Below.drew ?_ | refine Below.alloc ?_ (by first | omega | (simp; done) | (simp; omega) | (simp [World.setCell]; omega)) _ | refine Below.setCell ?_ (by first | omega | (simp; done) | (simp; omega)) _)))
  have R0_4 := Lib.hid (reads_lay hb hL4.out R0_3.out)
  have R1_4 := Lib.hid (reads_lay hb hL4.out R1_3.out)
  have R2_4 := Lib.hid (reads_lay hb hL4.out R2_3.out)
  have R3_4 := Lib.hid (reads_lay hb hL4.out R3_3.out)
  have R4_4 := Lib.hid (reads_lay hb hL4.out R4_3.out)
  clear hL4 R0_3 R1_3 R2_3 R3_3 R4_3
  have hz4 := hb.size
  try simp only [World.size_alloc, World.drewN, World.drew] at hz4
  clear hb
  have R5_4 := Lib.hid hr4
  clear hr4
  go_wp2_with fail
  refine (mosttimes_is A2 n c2 A3 nv c3 A4 m c4 h v l (q1, q2) HR.out _ R3_4.out R4_4.out R5_4.out (by omega) (by omega) (by omega)).mono ?_
  rintro e w5 ⟨rfl, hb⟩
  have HB5 := Lib.hid (show Below w.heap.size w w5 from step_below hb (by repeat' (first | exact Below.refl _ _ | exact HB4.out | refine below_drewN ?_ _ | refine Below.drew ?_ | refine Below.alloc ?_ (by first | omega | (simp; done) | (simp; omega) | (simp [World.setCell]; omega)) _ | refine Below.setCell ?_ (by first | omega | (simp; done) | (simp; omega)) _ | assumption)))
  have hL5 := Lib.hid (show Below w4.heap.size w4 _ from reads_mid hb (by repeat' (first | exact Below.refl _ _ | refine below_drewN ?_ _ | refine Below.drew ?_ | refine Below.alloc ?_ (by first | omega | (simp; done) | (simp; omega) | (simp [World.setCell]; omega)) _ | refine Below.setCell ?_ (by first | omega | (simp; done) | (simp; omega)) _)))
  have R0_5 := Lib.hid (reads_lay hb hL5.out R0_4.out)
  have R1_5 := Lib.hid (reads_lay hb hL5.out R1_4.out)
  have R2_5 := Lib.hid (reads_lay hb hL5.out R2_4.out)
  have R3_5 := Lib.hid (reads_lay hb hL5.out R3_4.out)
  have R4_5 := Lib.hid (reads_lay hb hL5.out R4_4.out)
  have R5_5 := Lib.hid (reads_lay hb hL5.out R5_4.out)
  clear hL5 R0_4 R1_4 R2_4 R3_4 R4_4 R5_4
  have hz5 := hb.size
  try simp only [World.size_alloc, World.drewN, World.drew] at hz5
  clear hb
  clear R3_5 R4_5 R5_5
  go_wp2_with fail
  refine (rmosttimes_is A n c V nv cv B m d h v l (q1, q2) HR.out _ R0_5.out R1_5.out R2_5.out (by omega) (by omega) (by omega)).mono ?_
  rintro e w6 ⟨rfl, hb⟩
  have HB6 := Lib.hid (show Below w.heap.size w w6 from step_below hb (by repeat' (first | exact Below.refl _ _ | exact HB5.out | refine below_drewN ?_ _ | refine Below.drew ?_ | refine Below.alloc ?_ (by first | omega | (simp; done) | (simp; omega) | (simp [World.setCell]; omega)) _ | refine Below.setCell ?_ (by first | omega | (simp; done) | (simp; omega)) _ | assumption)))
  have hL6 := Lib.hid (show Below w5.heap.size w5 _ from reads_mid hb (by repeat' (first | exact Below.refl _ _ | refine below_drewN ?_ _ | refine Below.drew ?_ | refine Below.alloc ?_ (by first | omega | (simp; done) | (simp; omega) | (simp [World.setCell]; omega)) _ | refine Below.setCell ?_ (by first | omega | (simp; done) | (simp; omega)) _)))
  have R0_6 := Lib.hid (reads_lay hb hL6.out R0_5.out)
  have R1_6 := Lib.hid (reads_lay hb hL6.out R1_5.out)
  have R2_6 := Lib.hid (reads_lay hb hL6.out R2_5.out)
  clear hL6 R0_5 R1_5 R2_5
  have hz6 := hb.size
  try simp only [World.size_alloc, World.drewN, World.drew] at hz6
  clear hb
  by_cases h0 : q2 = 0
  rotate_left
  · have e3 : (q2 != 0) = true := by simpa using h0
    clear h0
    go_wp2
    go_ret
    exact ⟨rfl, by repeat' (first | exact Below.refl _ _ | exact HB6.out | refine below_drewN ?_ _ | refine Below.drew ?_ | refine Below.alloc ?_ (by first | omega | (simp; done) | (simp; omega) | (simp [World.setCell]; omega)) _ | refine Below.setCell ?_ (by first | omega | (simp; done) | (simp; omega)) _ | assumption)⟩
  subst h0
  by_cases h20 : 20 < q1
  · have e3 : decide (20 < q1) = true := by simpa using h20
    clear h20
    go_wp2
    go_ret
    exact ⟨rfl, by repeat' (first | exact Below.refl _ _ | exact HB6.out | refine below_drewN ?_ _ | refine Below.drew ?_ | refine Below.alloc ?_ (by first | omega | (simp; done) | (simp; omega) | (simp [World.setCell]; omega)) _ | refine Below.setCell ?_ (by first | omega | (simp; done) | (simp; omega)) _ | assumption)⟩
  have e3 : decide (20 < q1) = false := by simpa using h20
  have hq0 := (most_ok HR.out).2.2.2.1
  obtain ⟨bn, rfl⟩ : ∃ bn : Nat, q1 = bn := ⟨q1.toNat, by omega⟩
  obtain ⟨s1, s2⟩ := sess_rep HR.out (by omega)
  have HS1 := Lib.hid s1
  have HS2 := Lib.hid s2
  clear s1 s2 hq0
  go_wp2
  have RH := R0_6
  have RV := R1_6
  have RW := R2_6
  clear R0_6 R1_6 R2_6
  have hs6 := HB6.out.size
  go_loopw [11, 12] (fun o x wr => ∃ (k : Nat) (ts : List TRow), k ≤ bn ∧ x = .int .i64 k ∧ Below w6.heap.size w6 wr ∧ ts.map TRow.xs = List.replicate k l ∧ TabOwn wr w6.heap.size o k ts) (fun _ x _ => bn - (intOf x).toNat)
  case atStart => exact ⟨0, [], by omega, rfl, Below.refl _ _, rfl, TabOwn.nil _ _⟩
  case round =>
    obtain ⟨k, ts, hk, rfl, hbk, hts, ho⟩ := hrel
    obtain ⟨w7, hnm⟩ : ∃ z : World, z = wr := ⟨_, rfl⟩
    subst hnm
    have HBK := Lib.hid hbk
    have HTS := Lib.hid hts
    have HO := Lib.hid ho
    have hb' := HB6.out.trans (hbk.mono HB6.out.size)
    have hwd := (RW.out.below hbk).more hbk.size
    have hvd := (RV.out.below hbk).more hbk.size
    have hhd := (RH.out.below hbk).more hbk.size
    clear hbk hts ho
    have HB7 := Lib.hid hb'
    clear hb'
    have hs7 := HBK.out.size
    by_cases hkt : k < bn
    · skip
      have hkk : (k : Int) < (bn : Int) := by omega
      have R0_7 := Lib.hid hwd
      clear hwd
      clear hvd hhd
      go_wp2_with fail
      refine (copyints_any B m d _ l _ R0_7.out (Nat.le_refl _) (by omega)).mono ?_
      rintro e w8 ⟨A8, c8, rfl, hb8, -, ho8⟩
      obtain ⟨v', W2, hrun, hto, hbW⟩ := (HO.out.below hb8).snoc (own_mono ho8 hs7) (Nat.le_trans hs7 hb8.size) (by omega)
      have HRUN := Lib.hid hrun
      have HTO := Lib.hid hto
      have HBW := Lib.hid ((HBK.out.trans (hb8.mono hs7)).trans hbW)
      clear hrun hto hbW hb8 ho8
      go_wp2_with (first | (at_builtin; refine wpList_app _ W2 v' rfl _ _ _ rfl _ _ rfl rfl HRUN.out ?_))
      go_roundw
      case rel => exact ⟨k + 1, ts ++ [⟨A8, m, c8, l⟩], by omega, by go_num, HBW.out, by rw [List.map_append, HTS.out, List.replicate_succ']; rfl, HTO.out⟩
      case measure => simp [intOf]; omega
    · skip
      obtain rfl : bn = k := by omega
      obtain ⟨A7, c7, rfl, hrt⟩ := HO.out.reads
      have R0_7 := Lib.hid hwd
      clear hwd
      have R1_7 := Lib.hid hvd
      clear hvd
      have R2_7 := Lib.hid hhd
      clear hhd
      have R3_7 := Lib.hid hrt
      clear hrt
      have HT1 := Lib.hid (show sessF h v (ts.map (·.xs)) = (0, 0) by rw [show ts.map (·.xs) = List.replicate bn l from HTS.out]; exact HS1.out)
      have HA7 := Lib.hid (show Below w7.heap.size w7 w7 from Below.refl _ _)
      go_wp2_with fail
      refine (checksessions_is A n c V nv cv A7 bn c7 h v ts (0, 0) HT1.out _ R2_7.out R1_7.out R3_7.out (by omega) (by omega) (by omega)).mono ?_
      rintro e w8 ⟨rfl, hb⟩
      have HB8 := Lib.hid (show Below w.heap.size w w8 from step_below hb (by repeat' (first | exact Below.refl _ _ | exact HB7.out | refine below_drewN ?_ _ | refine Below.drew ?_ | refine Below.alloc ?_ (by first | omega | (simp; done) | (simp; omega) | (simp [World.setCell]; omega)) _ | refine Below.setCell ?_ (by first | omega | (simp; done) | (simp; omega)) _ | assumption)))
      have hL8 := Lib.hid (show Below w7.heap.size w7 _ from reads_mid hb (by repeat' (first | exact Below.refl _ _ | refine below_drewN ?_ _ | refine Below.drew ?_ | refine Below.alloc ?_ (by first | omega | (simp; done) | (simp; omega) | (simp [World.setCell]; omega)) _ | refine Below.setCell ?_ (by first | omega | (simp; done) | (simp; omega)) _)))
      have R0_8 := Lib.hid (reads_lay hb hL8.out R0_7.out)
      have R1_8 := Lib.hid (reads_lay hb hL8.out R1_7.out)
      have R2_8 := Lib.hid (reads_lay hb hL8.out R2_7.out)
      have R3_8 := Lib.hid (readsT_lay hb hL8.out R3_7.out)
      clear hL8 R0_7 R1_7 R2_7 R3_7
      have HA8 := Lib.hid (step_below hb HA7.out)
      clear HA7
      have hz8 := hb.size
      try simp only [World.size_alloc, World.drewN, World.drew] at hz8
      clear hb
      go_wp2_with fail
      refine (copyints_any B m d _ l _ R0_8.out (Nat.le_refl _) (by omega)).mono ?_
      rintro e w9 ⟨A8, c8, rfl, hb9, -, ho9⟩
      have ho8 := HO.out.below HA8.out
      have hs8 := HA8.out.size
      obtain ⟨v', W2, hrun, hto, hbW⟩ := (ho8.below hb9).snoc (own_mono ho9 (Nat.le_trans hs7 hs8)) (Nat.le_trans (Nat.le_trans hs7 hs8) hb9.size) (by omega)
      obtain ⟨A9, c9, rfl, hrt⟩ := hto.reads
      have hbx : Below w6.heap.size w8 W2 := (hb9.mono (Nat.le_trans hs7 hs8)).trans hbW
      have HRH := Lib.hid (((RH.out.below (HBK.out.trans (HA8.out.mono hs7))).below hbx).more (Nat.le_trans (Nat.le_trans hs7 hs8) hbx.size))
      have HRV := Lib.hid (((RV.out.below (HBK.out.trans (HA8.out.mono hs7))).below hbx).more (Nat.le_trans (Nat.le_trans hs7 hs8) hbx.size))
      have HRUN := Lib.hid hrun
      have HRT := Lib.hid hrt
      have HBW := Lib.hid (HB8.out.trans (hbx.mono hs6))
      have HT2 := Lib.hid (show sessF h v ((ts ++ [⟨A8, m, c8, l⟩] : List TRow).map (·.xs)) = ((bn : Int), 26) by
        rw [List.map_append, show ts.map (·.xs) = List.replicate bn l from HTS.out]
        have := HS2.out
        rw [List.replicate_succ'] at this
        exact this)
      clear hrun hto hbW hb9 ho9 hrt ho8 hbx
      go_wp2_with (first | (at_builtin; refine wpList_app _ W2 _ rfl _ _ _ rfl _ _ rfl rfl HRUN.out ?_) | fail)
      refine (checksessions_is A n c V nv cv A9 (bn + 1) c9 h v _ ((bn : Int), 26) HT2.out _ HRH.out HRV.out HRT.out (by omega) (by omega) (by omega)).mono ?_
      rintro e w10 ⟨rfl, hb⟩
      have HBE := Lib.hid (HBW.out.trans (hb.mono HBW.out.size))
      clear hb
      go_wp2
      go_ret
      exact ⟨rfl, HBE.out⟩
end Go.Proofs.Ytnepjgnnppfibaa

end

section
/- For all heights and all wear the call of FigureTimes returns true and leaves its arguments as they were; no condition. -/
namespace Go.Proofs.Ytnepjgnnppfibaa.lawFU
open Go Go.RowKit Go.ChangeShapes Go.WideShapes Go.ChangeAt Go.Joins

set_option maxRecDepth 100000 in
theorem contract (H : Type) (enc : TypeId × Value → H) (W : World) (base : Nat) (args : Array Value) (ds gs : List (DataW H)) (before : List MemPlace)
    (hval : ∀ (j : Nat) t v, Try.f15.params[j]? = some t → args[j]? = some v → Value.okWide Try.prog W .any base t v)
    (hW : DataW.Whole enc Try.prog Try.f15.params.toList Rows.figureTimesSpec.vars false W args.toList ds gs before) :
    Calls Try.prog 15 args W fun e W' => ∃ v, e = .returned v ∧ Rows.figureTimesSpec.post enc Try.prog Try.f15 false true false false W args v W' := by
  have hW' := hW
  obtain ⟨p, q, hA, hV, rfl, hfz, hnd⟩ := hW'
  rw [Try.params15] at hA hval
  obtain ⟨v0, vs0, d0, ds0, p0, q0, hargs, rfl, rfl, h0, r0⟩ := trodAll_cons hA
  obtain ⟨v1, vs1, d1, ds1, p1, q1, rfl, rfl, rfl, h1, r1⟩ := trodAll_cons r0
  obtain ⟨v2, vs2, d2, ds2, p2, q2, rfl, rfl, rfl, h2, r2⟩ := trodAll_cons r1
  obtain ⟨rfl, rfl, rfl⟩ := trodAll_nil r2
  obtain rfl : args = #[v0, v1, v2] := by cases args; simp_all
  obtain ⟨A0, n0, c0, l0, rfl, hn0, hl0, hi0, hr0⟩ := arg_ints Try.underlying22 Try.underlying3 (by kernel_rfl) (hval 0 22 v0 rfl rfl) h0
  obtain ⟨A1, n1, c1, l1, rfl, hn1, hl1, hi1, hr1⟩ := arg_ints Try.underlying22 Try.underlying3 (by kernel_rfl) (hval 1 22 v1 rfl rfl) h1
  obtain ⟨A2, n2, c2, l2, rfl, hn2, hl2, hi2, hr2⟩ := arg_ints Try.underlying22 Try.underlying3 (by kernel_rfl) (hval 2 22 v2 rfl rfl) h2
  refine (lawFU_any A0 n0 c0 l0 A1 n1 c1 l1 A2 n2 c2 l2 W hn0 hl0 hi0 hr0 hn1 hl1 hi1 hr1 hn2 hl2 hi2 hr2).mono fun e W' ⟨he, hg⟩ => ?_
  subst he
  obtain ⟨rfl, rfl⟩ := trodVars_none hV
  exact ⟨_, rfl, post_law hW rfl (by kernel_rfl) Try.underlying4 (by kernel_rfl) rfl rfl rfl hg⟩

set_option maxRecDepth 100000 in
theorem lifted (os : Os) (started : os.Started) (H : Type) (enc : TypeId × Value → H) :
    ReturnsInHanded {} Try.checked os 15 .any (Rows.figureTimesSpec.pre6 enc Try.prog Try.f15 Rows.figureTimesRow.domain false) (Rows.figureTimesSpec.post enc Try.prog Try.f15 false true false false) := by
  refine returnsInHanded_of_change (C := Try.checked) (s := Rows.figureTimesSpec) own_knob started (by kernel_rfl) Try.func15
    (ChangeSpec.witness6 (enc := enc) (C := Try.checked) (s := Rows.figureTimesSpec) false ⟨#[], #[.slice none 0 0, .slice none 0 0, .slice none 0 0], []⟩ 8 (by kernel_rfl) (by kernel_rfl) (by kernel_rfl) (by kernel_rfl)) ?_
  intro W base args ds gs before hval hW _ _
  exact contract H enc W base args ds gs before hval hW

theorem over : Rows.FigureTimesSaid :=
  OpenClaim.holds_of_wide 15 Try.f15 rfl rfl rfl rfl rfl rfl rfl ⟨rfl, rfl, rfl, rfl, rfl⟩ rfl rfl rfl rfl rfl (by kernel_rfl) Try.func15 (by kernel_rfl)
    (of_decide_eq_true (by kernel_rfl)) (by unfold Func.isWrapper; first | (rw [if_pos (by decide +kernel)]; kernel_rfl) | (rw [if_neg (by decide +kernel)]; exact ⟨rfl, rfl⟩))
    (fun os started H enc _ => lifted os started H enc)
end Go.Proofs.Ytnepjgnnppfibaa.lawFU

end
