import Derived.Test.YtnepjgnnppfibaaQ20
import Derived.Test.YtnepjgnnppfibaaQ19
import Derived.Test.YtnepjgnnppfibaaQ10

section
/- Sessions: small lists; what the calls answer. -/
namespace Go.Proofs.Ytnepjgnnppfibaa
open Go Go.RowKit

section
variable {A : Option Addr} {n c : Nat} {B : Option Addr} {m d : Nat} {h : List Int} {t : List TRow} {E : Int} {w : World}
end
theorem copyJ_any (A : Option Addr) (n c : Nat) (l : List Int) (w : World) (hx : Reads w w.heap.size 1 A n (l.map (.int .i64))) (hn : n ≤ 1000000) :
    Calls Try.prog 34 #[.slice A n c] w fun e w' => ∃ A' c', e = .returned (.slice A' n c') ∧ Below w.heap.size w w' ∧ Reads w' w'.heap.size 1 A' n (l.map (.int .i64)) :=
  (copyints_any A n c _ l w hx (Nat.le_refl _) hn).mono fun e w' h => by
    obtain ⟨A', c', he, hb, hr, -⟩ := h
    exact ⟨A', c', he, hb, hr⟩

/-- At most six lists of at most 45 numbers, or a few more lists than the limit. -/
def listsB (m : Nat) (t : List TRow) : Bool := (decide (m ≤ 6) || (decide (100 < m) && decide (m ≤ 102))) && t.all (fun r => decide (r.n ≤ 45))
end Go.Proofs.Ytnepjgnnppfibaa

end

section
/- How often a session can be made. -/
namespace Go.Proofs.Ytnepjgnnppfibaa
open Go Go.RowKit

/-- How often the first zones allow a session; -1: they do not limit it. -/
def mostTo (h v l : List Int) : Nat → Int
  | 0 => -1
  | k + 1 => if l.getD k 0 = 0 then mostTo h v l k else if mostTo h v l k < 0 ∨ (h.getD k 0 - v.getD k 0).tdiv (l.getD k 0) < mostTo h v l k then (h.getD k 0 - v.getD k 0).tdiv (l.getD k 0) else mostTo h v l k
def mostF (h v l : List Int) : Int × Int :=
  if twoErr h v ≠ 0 then (0, twoErr h v) else if wearErr h.length l ≠ 0 then (0, wearErr h.length l) else if digB h.length h v then (0, 26) else if mostTo h v l h.length < 0 then (0, 12) else (mostTo h v l h.length, 0)
section
variable {h v l : List Int} {n : Nat}
theorem most_skip {k : Nat} (hk : l.getD k 0 = 0) : mostTo h v l (k + 1) = mostTo h v l k := by show (if _ then _ else _) = _; rw [if_pos hk]
theorem most_take {k : Nat} (hk : l.getD k 0 ≠ 0) (hc : mostTo h v l k < 0 ∨ (h.getD k 0 - v.getD k 0).tdiv (l.getD k 0) < mostTo h v l k) : mostTo h v l (k + 1) = (h.getD k 0 - v.getD k 0).tdiv (l.getD k 0) := by show (if _ then _ else _) = _; rw [if_neg hk, if_pos hc]
theorem most_keep {k : Nat} (hk : l.getD k 0 ≠ 0) (hc : ¬ (mostTo h v l k < 0 ∨ (h.getD k 0 - v.getD k 0).tdiv (l.getD k 0) < mostTo h v l k)) : mostTo h v l (k + 1) = mostTo h v l k := by show (if _ then _ else _) = _; rw [if_neg hk, if_neg hc]
theorem quot_in {x y z : Int} (h1 : 0 ≤ x - y) (h2 : x - y ≤ 200000) (hz : 0 < z) : (x - y).tdiv z = (x - y) / z ∧ 0 ≤ (x - y) / z ∧ (x - y) / z ≤ 200000 := by
  refine ⟨Int.tdiv_eq_ediv_of_nonneg h1, Int.ediv_nonneg h1 (by omega), ?_⟩
  have := Int.ediv_le_self z h1
  omega
theorem most_in (hd : ∀ i, i < n → v.getD i 0 ≤ h.getD i 0 ∧ h.getD i 0 - v.getD i 0 ≤ 200000) (hl : ∀ z ∈ l, 0 ≤ z ∧ z ≤ 100000) : ∀ k, k ≤ n → -1 ≤ mostTo h v l k ∧ mostTo h v l k ≤ 200000
  | 0, _ => by unfold mostTo; omega
  | k + 1, hk => by
    have ih := most_in hd hl k (by omega)
    have hlk := getD_in (i := k) (by omega) hl
    by_cases h0 : l.getD k 0 = 0
    · rw [most_skip h0]; exact ih
    · obtain ⟨q1, q2, q3⟩ := quot_in (x := h.getD k 0) (y := v.getD k 0) (z := l.getD k 0) (by have := hd k (by omega); omega) (hd k (by omega)).2 (by omega)
      by_cases hc : mostTo h v l k < 0 ∨ (h.getD k 0 - v.getD k 0).tdiv (l.getD k 0) < mostTo h v l k
      · rw [most_take h0 hc, q1]; omega
      · rw [most_keep h0 hc]; exact ih
/-- It is no more than each zone allows, and as much as one of them allows. -/
theorem most_le (hd : ∀ i, i < n → v.getD i 0 ≤ h.getD i 0 ∧ h.getD i 0 - v.getD i 0 ≤ 200000) (hl : ∀ z ∈ l, 0 ≤ z ∧ z ≤ 100000) : ∀ k, k ≤ n →
    (mostTo h v l k < 0 → ∀ i, i < k → l.getD i 0 = 0) ∧ (∀ i, i < k → l.getD i 0 ≠ 0 → mostTo h v l k ≤ (h.getD i 0 - v.getD i 0) / l.getD i 0) ∧ (0 ≤ mostTo h v l k → ∃ i, i < k ∧ l.getD i 0 ≠ 0 ∧ mostTo h v l k = (h.getD i 0 - v.getD i 0) / l.getD i 0)
  | 0, _ => ⟨fun _ i hi => absurd hi (by omega), fun i hi => absurd hi (by omega), fun h0 => by unfold mostTo at h0; omega⟩
  | k + 1, hk => by
    obtain ⟨i1, i2, i3⟩ := most_le hd hl k (by omega)
    have hlk := getD_in (i := k) (by omega) hl
    by_cases h0 : l.getD k 0 = 0
    · rw [most_skip h0]
      refine ⟨fun hn i hi => ?_, fun i hi hne => ?_, fun hp => ?_⟩
      · by_cases e : i = k
        · rw [e]; exact h0
        · exact i1 hn i (by omega)
      · by_cases e : i = k
        · subst e; exact absurd h0 hne
        · exact i2 i (by omega) hne
      · obtain ⟨i, a, b, c⟩ := i3 hp
        exact ⟨i, by omega, b, c⟩
    · obtain ⟨q1, q2, q3⟩ := quot_in (x := h.getD k 0) (y := v.getD k 0) (z := l.getD k 0) (by have := hd k (by omega); omega) (hd k (by omega)).2 (by omega)
      by_cases hc : mostTo h v l k < 0 ∨ (h.getD k 0 - v.getD k 0).tdiv (l.getD k 0) < mostTo h v l k
      · rw [most_take h0 hc, q1]
        rw [q1] at hc
        refine ⟨fun hn => absurd hn (by omega), fun i hi hne => ?_, fun _ => ⟨k, by omega, h0, rfl⟩⟩
        by_cases e : i = k
        · subst e; exact Int.le_refl _
        · rcases hc with hc | hc
          · exact absurd (i1 hc i (by omega)) hne
          · have := i2 i (by omega) hne; omega
      · rw [most_keep h0 hc]
        rw [q1] at hc
        refine ⟨fun hn => absurd (.inl hn) hc, fun i hi hne => ?_, fun hp => ?_⟩
        · by_cases e : i = k
          · subst e; omega
          · exact i2 i (by omega) hne
        · obtain ⟨i, a, b, c⟩ := i3 hp
          exact ⟨i, by omega, b, c⟩
end

set_option maxRecDepth 100000 in
set_option maxHeartbeats 4000000 in
theorem mosttimes_is (A : Option Addr) (n c : Nat) (V : Option Addr) (nv cv : Nat) (B : Option Addr) (m d : Nat) (h v l : List Int) (R : Int × Int) (hR : mostF h v l = R) (w : World) (hx : Reads w w.heap.size 1 A n (h.map (.int .i64))) (hv : Reads w w.heap.size 1 V nv (v.map (.int .i64))) (hy : Reads w w.heap.size 1 B m (l.map (.int .i64))) (hn : n ≤ 1000) (hnv : nv ≤ 1000) (hm : m ≤ 1000) :
    Calls Try.prog 67 #[.slice A n c, .slice V nv cv, .slice B m d] w fun e w' => e = .returned (.tuple #[.int .i64 R.1, .int .i64 R.2]) ∧ Below w.heap.size w w' := by
  have hl : h.length = n := by have := hx.1; simpa using this
  have hlv : v.length = nv := by have := hv.1; simpa using this
  have hll : l.length = m := by have := hy.1; simpa using this
  have HX := Lib.hid hx
  have HV := Lib.hid hv
  have HY := Lib.hid hy
  obtain ⟨E1, hE1⟩ : ∃ E, twoErr h v = E := ⟨_, rfl⟩
  have HE1 := Lib.hid hE1
  unfold mostF at hR
  rw [hE1, hl] at hR
  by_cases h0 : E1 = 0
  rotate_left
  · rw [if_pos h0] at hR
    subst hR
    have e1 : (E1 != 0) = true := by simpa using h0
    clear h0 hE1 hl hlv hll hx hv hy
    go_enter Try.func67, Try.ntmps67
    go_wp2_with fail
    refine (both_is A n c V nv cv h v E1 HE1.out _ HX.out (by omega) HV.out (by omega)).mono ?_
    rintro e w1 ⟨rfl, hb⟩
    have HB1 := Lib.hid (show Below w.heap.size w w1 from step_below hb (by repeat' (first | exact Below.refl _ _ | exact HB0.out | refine below_drewN ?_ _ | refine Below.drew ?_ | refine Below.alloc ?_ (by first | omega | (simp; done) | (simp; omega) | (simp [World.setCell]; omega)) _ | refine Below.setCell ?_ (by first | omega | (simp; done) | (simp; omega)) _ | assumption)))
    have hz1 := hb.size
    try simp only [World.size_alloc, World.drewN, World.drew] at hz1
    clear hb
    go_wp2
    go_ret2
    exact ⟨rfl, HB1.out⟩
  subst h0
  rw [if_neg (by simp)] at hR
  obtain ⟨hE0, hvh, hE0v⟩ := two_ok hE1
  obtain ⟨n1, n2, hh⟩ := heights_ok hE0
  obtain ⟨-, -, hvv⟩ := heights_ok hE0v
  rw [hl] at n1 n2
  have hnn : nv = n := by omega
  subst hnn
  obtain ⟨E2, hE2⟩ : ∃ E, wearErr nv l = E := ⟨_, rfl⟩
  have HE2 := Lib.hid hE2
  rw [hE2] at hR
  by_cases h0 : E2 = 0
  rotate_left
  · rw [if_pos h0] at hR
    subst hR
    have e1 : (E2 != 0) = true := by simpa using h0
    clear h0 hE1 hl hlv hll hx hv hy hE0 hvh hE0v hh hvv hE2
    go_enter Try.func67, Try.ntmps67
    go_wp2_with fail
    refine (both_is A nv c V nv cv h v 0 HE1.out _ HX.out (by omega) HV.out (by omega)).mono ?_
    rintro e w1 ⟨rfl, hb⟩
    have HB1 := Lib.hid (show Below w.heap.size w w1 from step_below hb (by repeat' (first | exact Below.refl _ _ | exact HB0.out | refine below_drewN ?_ _ | refine Below.drew ?_ | refine Below.alloc ?_ (by first | omega | (simp; done) | (simp; omega) | (simp [World.setCell]; omega)) _ | refine Below.setCell ?_ (by first | omega | (simp; done) | (simp; omega)) _ | assumption)))
    have hz1 := hb.size
    try simp only [World.size_alloc, World.drewN, World.drew] at hz1
    clear hb
    go_wp2_with fail
    refine (wear_is B m d l nv E2 HE2.out _ ((HY.out.below HB1.out).more HB1.out.size) (by omega)).mono ?_
    rintro e w2 ⟨rfl, hb⟩
    have HB2 := Lib.hid (show Below w.heap.size w w2 from step_below hb (by repeat' (first | exact Below.refl _ _ | exact HB1.out | refine below_drewN ?_ _ | refine Below.drew ?_ | refine Below.alloc ?_ (by first | omega | (simp; done) | (simp; omega) | (simp [World.setCell]; omega)) _ | refine Below.setCell ?_ (by first | omega | (simp; done) | (simp; omega)) _ | assumption)))
    have hz2 := hb.size
    try simp only [World.size_alloc, World.drewN, World.drew] at hz2
    clear hb
    go_wp2
    go_ret2
    exact ⟨rfl, HB2.out⟩
  subst h0
  rw [if_neg (by simp)] at hR
  obtain ⟨hxl, hxs⟩ := wear_ok hE2
  obtain rfl : m = nv := by omega
  obtain ⟨t0, ht0⟩ : ∃ t, digB m h v = t := ⟨_, rfl⟩
  have HT0 := Lib.hid ht0
  rw [ht0] at hR
  cases t0
  rotate_left
  · rw [if_pos rfl] at hR
    subst hR
    clear hE1 hl hlv hll hx hv hy hE0 hvh hE0v hh hvv hE2 hxl hxs ht0
    go_enter Try.func67, Try.ntmps67
    go_wp2_with fail
    refine (both_is A m c V m cv h v 0 HE1.out _ HX.out (by omega) HV.out (by omega)).mono ?_
    rintro e w1 ⟨rfl, hb⟩
    have HB1 := Lib.hid (show Below w.heap.size w w1 from step_below hb (by repeat' (first | exact Below.refl _ _ | exact HB0.out | refine below_drewN ?_ _ | refine Below.drew ?_ | refine Below.alloc ?_ (by first | omega | (simp; done) | (simp; omega) | (simp [World.setCell]; omega)) _ | refine Below.setCell ?_ (by first | omega | (simp; done) | (simp; omega)) _ | assumption)))
    have hz1 := hb.size
    try simp only [World.size_alloc, World.drewN, World.drew] at hz1
    clear hb
    go_wp2_with fail
    refine (wear_is B m d l m 0 HE2.out _ ((HY.out.below HB1.out).more HB1.out.size) (by omega)).mono ?_
    rintro e w2 ⟨rfl, hb⟩
    have HB2 := Lib.hid (show Below w.heap.size w w2 from step_below hb (by repeat' (first | exact Below.refl _ _ | exact HB1.out | refine below_drewN ?_ _ | refine Below.drew ?_ | refine Below.alloc ?_ (by first | omega | (simp; done) | (simp; omega) | (simp [World.setCell]; omega)) _ | refine Below.setCell ?_ (by first | omega | (simp; done) | (simp; omega)) _ | assumption)))
    have hz2 := hb.size
    try simp only [World.size_alloc, World.drewN, World.drew] at hz2
    clear hb
    go_wp2_with fail
    refine (digs_is A m c V cv h v true HT0.out w.heap.size _ (HX.out.below HB2.out) (HV.out.below HB2.out) (by omega)).mono ?_
    rintro e w3 ⟨rfl, hb⟩
    have HB3 := Lib.hid (show Below w.heap.size w w3 from step_below hb (by repeat' (first | exact Below.refl _ _ | exact HB2.out | refine below_drewN ?_ _ | refine Below.drew ?_ | refine Below.alloc ?_ (by first | omega | (simp; done) | (simp; omega) | (simp [World.setCell]; omega)) _ | refine Below.setCell ?_ (by first | omega | (simp; done) | (simp; omega)) _ | assumption)))
    have hz3 := hb.size
    try simp only [World.size_alloc, World.drewN, World.drew] at hz3
    clear hb
    go_wp2
    go_ret2
    exact ⟨rfl, HB3.out⟩
  rw [if_neg (by simp)] at hR
  have hdd : ∀ i, i < m → v.getD i 0 ≤ h.getD i 0 ∧ h.getD i 0 - v.getD i 0 ≤ 200000 := fun i hi => by
    have a1 := dig_false ht0 i hi
    have a2 := getD_in (i := i) (by omega) hh
    have a3 := getD_in (i := i) (by omega) hvv
    exact ⟨a1, by omega⟩
  have HDD := Lib.hid hdd
  have HXS := Lib.hid hxs
  have HR := Lib.hid hR
  clear hE1 hl hlv hll hx hv hy hE0 hvh hE0v hh hvv hE2 hxl hxs ht0 hR hdd
  go_enter Try.func67, Try.ntmps67
  go_wp2_with fail
  refine (both_is A m c V m cv h v 0 HE1.out _ HX.out (by omega) HV.out (by omega)).mono ?_
  rintro e w1 ⟨rfl, hb⟩
  have HB1 := Lib.hid (show Below w.heap.size w w1 from step_below hb (by repeat' (first | exact Below.refl _ _ | exact HB0.out | refine below_drewN ?_ _ | refine Below.drew ?_ | refine Below.alloc ?_ (by first | omega | (simp; done) | (simp; omega) | (simp [World.setCell]; omega)) _ | refine Below.setCell ?_ (by first | omega | (simp; done) | (simp; omega)) _ | assumption)))
  have hz1 := hb.size
  try simp only [World.size_alloc, World.drewN, World.drew] at hz1
  clear hb
  go_wp2_with fail
  refine (wear_is B m d l m 0 HE2.out _ ((HY.out.below HB1.out).more HB1.out.size) (by omega)).mono ?_
  rintro e w2 ⟨rfl, hb⟩
  have HB2 := Lib.hid (show Below w.heap.size w w2 from step_below hb (by repeat' (first | exact Below.refl _ _ | exact HB1.out | refine below_drewN ?_ _ | refine Below.drew ?_ | refine Below.alloc ?_ (by first | omega | (simp; done) | (simp; omega) | (simp [World.setCell]; omega)) _ | refine Below.setCell ?_ (by first | omega | (simp; done) | (simp; omega)) _ | assumption)))
  have hz2 := hb.size
  try simp only [World.size_alloc, World.drewN, World.drew] at hz2
  clear hb
  go_wp2_with fail
  refine (digs_is A m c V cv h v false HT0.out w.heap.size _ (HX.out.below HB2.out) (HV.out.below HB2.out) (by omega)).mono ?_
  rintro e w3 ⟨rfl, hb⟩
  have HB3 := Lib.hid (show Below w.heap.size w w3 from step_below hb (by repeat' (first | exact Below.refl _ _ | exact HB2.out | refine below_drewN ?_ _ | refine Below.drew ?_ | refine Below.alloc ?_ (by first | omega | (simp; done) | (simp; omega) | (simp [World.setCell]; omega)) _ | refine Below.setCell ?_ (by first | omega | (simp; done) | (simp; omega)) _ | assumption)))
  have hz3 := hb.size
  try simp only [World.size_alloc, World.drewN, World.drew] at hz3
  clear hb
  go_wp2
  have hsL := HB3.out.size
  go_loopw [10, 32] (fun b x wr => ∃ k : Nat, k ≤ m ∧ b = .int .i64 (mostTo h v l k) ∧ x = .int .i64 k ∧ Below w3.heap.size w3 wr) (fun _ x _ => m - (intOf x).toNat)
  case atStart => exact ⟨0, by omega, rfl, rfl, Below.refl _ _⟩
  case round =>
    obtain ⟨k, hk, rfl, rfl, hb⟩ := hrel
    obtain ⟨w4, hnm⟩ : ∃ z : World, z = wr := ⟨_, rfl⟩
    subst hnm
    have HBW := Lib.hid hb
    have hb' := HB3.out.trans (hb.mono hsL)
    have HBT := Lib.hid hb'
    have hin := most_in (n := m) HDD.out HXS.out k hk
    obtain ⟨b, hbb⟩ : ∃ b, mostTo h v l k = b := ⟨_, rfl⟩
    rw [hbb] at hin
    have HBB := Lib.hid hbb
    rw [hbb]
    clear hb hb' hbb
    by_cases hlt : k < m
    · have hkk : (k : Int) < (m : Int) := by omega
      obtain ⟨xb, xo, x, rfl, hxb, gx, cx⟩ := (HX.out.below HBT.out).int_ hlt
      obtain ⟨yb, yo, y, rfl, hyb, gy, cy⟩ := (HV.out.below HBT.out).int_ hlt
      obtain ⟨zb, zo, z, rfl, hzb, gz, cz⟩ := (HY.out.below HBT.out).int_ hlt
      have hdk := HDD.out k hlt
      rw [getD_of gx, getD_of gy] at hdk
      have hzk := HXS.out z (List.mem_of_getElem? gz)
      have hgx : h.getD k 0 = x := getD_of gx
      have hgy : v.getD k 0 = y := getD_of gy
      have hgz : l.getD k 0 = z := getD_of gz
      by_cases h0 : z = 0
      · have hz0 : (z == 0) = true := by simp [h0]
        have HNX := Lib.hid ((most_skip (h := h) (v := v) (hgz.trans h0)).trans HBB.out)
        clear gx gy gz hgx hgy hgz hdk hzk h0
        go_wp2
        go_roundw
        case rel => exact ⟨k + 1, by omega, by rw [HNX.out], by go_num, HBW.out⟩
        case measure => simp [intOf]; omega
      have hz0 : (z == 0) = false := by simp; omega
      obtain ⟨q1, q2, q3⟩ := quot_in (x := x) (y := y) (z := z) (by omega) hdk.2 (by omega)
      obtain ⟨q, hq⟩ : ∃ q, (x - y).tdiv z = q := ⟨_, rfl⟩
      rw [q1] at hq
      rw [hq] at q2 q3
      have e3 := IntWalk.i64_in (x - y) ⟨by omega, by omega⟩
      have e4 : (x - y).tdiv z = q := by rw [q1]; exact hq
      have e5 := IntWalk.i64_in q ⟨by omega, by omega⟩
      have hcs : (b < 0 ∨ q < b) ∨ ¬ (b < 0 ∨ q < b) := Decidable.em _
      rcases hcs with hc | hc
      · have HNX := Lib.hid (show mostTo h v l (k + 1) = q by
          rw [most_take (by rw [hgz]; exact h0) (by rw [HBB.out, hgx, hgy, hgz, e4]; exact hc), hgx, hgy, hgz]; exact e4)
        clear gx gy gz hgx hgy hgz hdk hzk hq q1
        have hcc : decide (b < 0) = true ∨ (decide (b < 0) = false ∧ decide (q < b) = true) := by
          rcases hc with hc | hc
          · exact .inl (by simpa using hc)
          · by_cases hb0 : b < 0
            · exact .inl (by simpa using hb0)
            · exact .inr ⟨by simpa using hb0, by simpa using hc⟩
        clear hc
        rcases hcc with d1 | ⟨d1, d2⟩
        all_goals
          go_wp2
          go_quiet (fail)
          go_wp2
          go_roundw
          case rel => exact ⟨k + 1, by omega, by rw [HNX.out], by go_num, below_drewN HBW.out _⟩
          case measure => simp [intOf]; omega
      · have HNX := Lib.hid (show mostTo h v l (k + 1) = b by
          rw [most_keep (by rw [hgz]; exact h0) (by rw [HBB.out, hgx, hgy, hgz, e4]; exact hc)]; exact HBB.out)
        have d1 : decide (b < 0) = false := by simp; omega
        have d2 : decide (q < b) = false := by simp; omega
        clear gx gy gz hgx hgy hgz hdk hzk hq hc q1
        go_wp2
        go_quiet (fail)
        go_wp2
        go_roundw
        case rel => exact ⟨k + 1, by omega, by rw [HNX.out], by go_num, below_drewN HBW.out _⟩
        case measure => simp [intOf]; omega
    · obtain rfl : m = k := by omega
      have hR := HR.out
      rw [HBB.out] at hR
      by_cases hneg : b < 0
      · have d1 : decide (b < 0) = true := by simpa using hneg
        have HRR := Lib.hid (show (0, 12) = R by rw [if_pos hneg] at hR; exact hR)
        clear hR hneg
        go_wp2
        go_ret2
        exact ⟨by rw [← HRR.out]; rfl, HBT.out⟩
      · have d1 : decide (b < 0) = false := by simpa using hneg
        have HRR := Lib.hid (show (b, 0) = R by rw [if_neg hneg] at hR; exact hR)
        clear hR hneg
        go_wp2
        go_ret2
        exact ⟨by rw [← HRR.out]; rfl, HBT.out⟩

set_option maxRecDepth 100000 in
set_option maxHeartbeats 4000000 in
theorem rmosttimes_is (A : Option Addr) (n c : Nat) (V : Option Addr) (nv cv : Nat) (B : Option Addr) (m d : Nat) (h v l : List Int) (R : Int × Int) (hR : mostF h v l = R) (w : World) (hx : Reads w w.heap.size 1 A n (h.map (.int .i64))) (hv : Reads w w.heap.size 1 V nv (v.map (.int .i64))) (hy : Reads w w.heap.size 1 B m (l.map (.int .i64))) (hn : n ≤ 1000) (hnv : nv ≤ 1000) (hm : m ≤ 1000) :
    Calls Try.prog 68 #[.slice A n c, .slice V nv cv, .slice B m d] w fun e w' => e = .returned (.tuple #[.int .i64 R.1, .int .i64 R.2]) ∧ Below w.heap.size w w' := by
  have hl : h.length = n := by have := hx.1; simpa using this
  have hlv : v.length = nv := by have := hv.1; simpa using this
  have hll : l.length = m := by have := hy.1; simpa using this
  have HX := Lib.hid hx
  have HV := Lib.hid hv
  have HY := Lib.hid hy
  obtain ⟨E1, hE1⟩ : ∃ E, twoErr h v = E := ⟨_, rfl⟩
  have HE1 := Lib.hid hE1
  unfold mostF at hR
  rw [hE1, hl] at hR
  by_cases h0 : E1 = 0
  rotate_left
  · rw [if_pos h0] at hR
    subst hR
    have e1 : (E1 != 0) = true := by simpa using h0
    clear h0 hE1 hl hlv hll hx hv hy
    go_enter Try.func68, Try.ntmps68
    go_wp2_with fail
    refine (rtwo_is A n c V nv cv h v E1 HE1.out _ HX.out (by omega) HV.out (by omega)).mono ?_
    rintro e w1 ⟨rfl, hb⟩
    have HB1 := Lib.hid (show Below w.heap.size w w1 from step_below hb (by repeat' (first | exact Below.refl _ _ | exact HB0.out | refine below_drewN ?_ _ | refine Below.drew ?_ | refine Below.alloc ?_ (by first | omega | (simp; done) | (simp; omega) | (simp [World.setCell]; omega)) _ | refine Below.setCell ?_ (by first | omega | (simp; done) | (simp; omega)) _ | assumption)))
    have hz1 := hb.size
    try simp only [World.size_alloc, World.drewN, World.drew] at hz1
    clear hb
    go_wp2
    go_ret2
    exact ⟨rfl, HB1.out⟩
  subst h0
  rw [if_neg (by simp)] at hR
  obtain ⟨hE0, hvh, hE0v⟩ := two_ok hE1
  obtain ⟨n1, n2, hh⟩ := heights_ok hE0
  obtain ⟨-, -, hvv⟩ := heights_ok hE0v
  rw [hl] at n1 n2
  have hnn : nv = n := by omega
  subst hnn
  obtain ⟨E2, hE2⟩ : ∃ E, wearErr nv l = E := ⟨_, rfl⟩
  have HE2 := Lib.hid hE2
  rw [hE2] at hR
  by_cases h0 : E2 = 0
  rotate_left
  · rw [if_pos h0] at hR
    subst hR
    have e1 : (E2 != 0) = true := by simpa using h0
    clear h0 hE1 hl hlv hll hx hv hy hE0 hvh hE0v hh hvv hE2
    go_enter Try.func68, Try.ntmps68
    go_wp2_with fail
    refine (rtwo_is A nv c V nv cv h v 0 HE1.out _ HX.out (by omega) HV.out (by omega)).mono ?_
    rintro e w1 ⟨rfl, hb⟩
    have HB1 := Lib.hid (show Below w.heap.size w w1 from step_below hb (by repeat' (first | exact Below.refl _ _ | exact HB0.out | refine below_drewN ?_ _ | refine Below.drew ?_ | refine Below.alloc ?_ (by first | omega | (simp; done) | (simp; omega) | (simp [World.setCell]; omega)) _ | refine Below.setCell ?_ (by first | omega | (simp; done) | (simp; omega)) _ | assumption)))
    have hz1 := hb.size
    try simp only [World.size_alloc, World.drewN, World.drew] at hz1
    clear hb
    go_wp2_with fail
    refine (rwear_is nv B m d l E2 HE2.out _ ((HY.out.below HB1.out).more HB1.out.size) (by omega)).mono ?_
    rintro e w' ⟨rfl, rfl⟩
    go_wp2
    go_ret2
    exact ⟨rfl, HB1.out⟩
  subst h0
  rw [if_neg (by simp)] at hR
  obtain ⟨hxl, hxs⟩ := wear_ok hE2
  obtain rfl : m = nv := by omega
  obtain ⟨t0, ht0⟩ : ∃ t, digB m h v = t := ⟨_, rfl⟩
  have HT0 := Lib.hid ht0
  rw [ht0] at hR
  cases t0
  rotate_left
  · rw [if_pos rfl] at hR
    subst hR
    clear hE1 hl hlv hll hx hv hy hE0 hvh hE0v hh hvv hE2 hxl hxs ht0
    go_enter Try.func68, Try.ntmps68
    go_wp2_with fail
    refine (rtwo_is A m c V m cv h v 0 HE1.out _ HX.out (by omega) HV.out (by omega)).mono ?_
    rintro e w1 ⟨rfl, hb⟩
    have HB1 := Lib.hid (show Below w.heap.size w w1 from step_below hb (by repeat' (first | exact Below.refl _ _ | exact HB0.out | refine below_drewN ?_ _ | refine Below.drew ?_ | refine Below.alloc ?_ (by first | omega | (simp; done) | (simp; omega) | (simp [World.setCell]; omega)) _ | refine Below.setCell ?_ (by first | omega | (simp; done) | (simp; omega)) _ | assumption)))
    have hz1 := hb.size
    try simp only [World.size_alloc, World.drewN, World.drew] at hz1
    clear hb
    go_wp2_with fail
    refine (rwear_is m B m d l 0 HE2.out _ ((HY.out.below HB1.out).more HB1.out.size) (by omega)).mono ?_
    rintro e w' ⟨rfl, rfl⟩
    go_wp2_with fail
    refine (rbelow_is A m c V cv h v true HT0.out w.heap.size _ (HX.out.below HB1.out) (HV.out.below HB1.out) (by omega)).mono ?_
    rintro e w2 ⟨rfl, hb⟩
    have HB2 := Lib.hid (show Below w.heap.size w w2 from step_below hb (by repeat' (first | exact Below.refl _ _ | exact HB1.out | refine below_drewN ?_ _ | refine Below.drew ?_ | refine Below.alloc ?_ (by first | omega | (simp; done) | (simp; omega) | (simp [World.setCell]; omega)) _ | refine Below.setCell ?_ (by first | omega | (simp; done) | (simp; omega)) _ | assumption)))
    have hz2 := hb.size
    try simp only [World.size_alloc, World.drewN, World.drew] at hz2
    clear hb
    go_wp2
    go_ret2
    exact ⟨rfl, HB2.out⟩
  rw [if_neg (by simp)] at hR
  have hdd : ∀ i, i < m → v.getD i 0 ≤ h.getD i 0 ∧ h.getD i 0 - v.getD i 0 ≤ 200000 := fun i hi => by
    have a1 := dig_false ht0 i hi
    have a2 := getD_in (i := i) (by omega) hh
    have a3 := getD_in (i := i) (by omega) hvv
    exact ⟨a1, by omega⟩
  have HDD := Lib.hid hdd
  have HXS := Lib.hid hxs
  have HR := Lib.hid hR
  clear hE1 hl hlv hll hx hv hy hE0 hvh hE0v hh hvv hE2 hxl hxs ht0 hR hdd
  go_enter Try.func68, Try.ntmps68
  go_wp2_with fail
  refine (rtwo_is A m c V m cv h v 0 HE1.out _ HX.out (by omega) HV.out (by omega)).mono ?_
  rintro e w1 ⟨rfl, hb⟩
  have HB1 := Lib.hid (show Below w.heap.size w w1 from step_below hb (by repeat' (first | exact Below.refl _ _ | exact HB0.out | refine below_drewN ?_ _ | refine Below.drew ?_ | refine Below.alloc ?_ (by first | omega | (simp; done) | (simp; omega) | (simp [World.setCell]; omega)) _ | refine Below.setCell ?_ (by first | omega | (simp; done) | (simp; omega)) _ | assumption)))
  have hz1 := hb.size
  try simp only [World.size_alloc, World.drewN, World.drew] at hz1
  clear hb
  go_wp2_with fail
  refine (rwear_is m B m d l 0 HE2.out _ ((HY.out.below HB1.out).more HB1.out.size) (by omega)).mono ?_
  rintro e w' ⟨rfl, rfl⟩
  go_wp2_with fail
  refine (rbelow_is A m c V cv h v false HT0.out w.heap.size _ (HX.out.below HB1.out) (HV.out.below HB1.out) (by omega)).mono ?_
  rintro e w2 ⟨rfl, hb⟩
  have HB2 := Lib.hid (show Below w.heap.size w w2 from step_below hb (by repeat' (first | exact Below.refl _ _ | exact HB1.out | refine below_drewN ?_ _ | refine Below.drew ?_ | refine Below.alloc ?_ (by first | omega | (simp; done) | (simp; omega) | (simp [World.setCell]; omega)) _ | refine Below.setCell ?_ (by first | omega | (simp; done) | (simp; omega)) _ | assumption)))
  have hz2 := hb.size
  try simp only [World.size_alloc, World.drewN, World.drew] at hz2
  clear hb
  go_wp2
  have hsL := HB2.out.size
  go_loopw [10, 11] (fun b x wr => ∃ k : Nat, k ≤ m ∧ b = .int .i64 (mostTo h v l k) ∧ x = .int .i64 k ∧ Below w2.heap.size w2 wr) (fun _ x _ => m - (intOf x).toNat)
  case atStart => exact ⟨0, by omega, rfl, rfl, Below.refl _ _⟩
  case round =>
    obtain ⟨k, hk, rfl, rfl, hb⟩ := hrel
    obtain ⟨w3, hnm⟩ : ∃ z : World, z = wr := ⟨_, rfl⟩
    subst hnm
    have HBW := Lib.hid hb
    have hb' := HB2.out.trans (hb.mono hsL)
    have HBT := Lib.hid hb'
    have hin := most_in (n := m) HDD.out HXS.out k hk
    obtain ⟨b, hbb⟩ : ∃ b, mostTo h v l k = b := ⟨_, rfl⟩
    rw [hbb] at hin
    have HBB := Lib.hid hbb
    rw [hbb]
    clear hb hb' hbb
    by_cases hlt : k < m
    · have hkk : (k : Int) < (m : Int) := by omega
      obtain ⟨xb, xo, x, rfl, hxb, gx, cx⟩ := (HX.out.below HBT.out).int_ hlt
      obtain ⟨yb, yo, y, rfl, hyb, gy, cy⟩ := (HV.out.below HBT.out).int_ hlt
      obtain ⟨zb, zo, z, rfl, hzb, gz, cz⟩ := (HY.out.below HBT.out).int_ hlt
      have hdk := HDD.out k hlt
      rw [getD_of gx, getD_of gy] at hdk
      have hzk := HXS.out z (List.mem_of_getElem? gz)
      have hgx : h.getD k 0 = x := getD_of gx
      have hgy : v.getD k 0 = y := getD_of gy
      have hgz : l.getD k 0 = z := getD_of gz
      by_cases h0 : z = 0
      · have hz0 : decide (0 < z) = false := by simp [h0]
        have HNX := Lib.hid ((most_skip (h := h) (v := v) (hgz.trans h0)).trans HBB.out)
        clear gx gy gz hgx hgy hgz hdk hzk h0
        go_wp2
        go_roundw
        case rel => exact ⟨k + 1, by omega, by rw [HNX.out], by go_num, HBW.out⟩
        case measure => simp [intOf]; omega
      have hz0 : decide (0 < z) = true := by simp; omega
      obtain ⟨q1, q2, q3⟩ := quot_in (x := x) (y := y) (z := z) (by omega) hdk.2 (by omega)
      obtain ⟨q, hq⟩ : ∃ q, (x - y).tdiv z = q := ⟨_, rfl⟩
      rw [q1] at hq
      rw [hq] at q2 q3
      have e3 := IntWalk.i64_in (x - y) ⟨by omega, by omega⟩
      have e4 : (x - y).tdiv z = q := by rw [q1]; exact hq
      have e5 := IntWalk.i64_in q ⟨by omega, by omega⟩
      have hcs : (b < 0 ∨ q < b) ∨ ¬ (b < 0 ∨ q < b) := Decidable.em _
      rcases hcs with hc | hc
      · have HNX := Lib.hid (show mostTo h v l (k + 1) = q by
          rw [most_take (by rw [hgz]; exact h0) (by rw [HBB.out, hgx, hgy, hgz, e4]; exact hc), hgx, hgy, hgz]; exact e4)
        clear gx gy gz hgx hgy hgz hdk hzk hq q1
        have hcc : decide (b < 0) = true ∨ (decide (b < 0) = false ∧ decide (q < b) = true) := by
          rcases hc with hc | hc
          · exact .inl (by simpa using hc)
          · by_cases hb0 : b < 0
            · exact .inl (by simpa using hb0)
            · exact .inr ⟨by simpa using hb0, by simpa using hc⟩
        clear hc
        rcases hcc with d1 | ⟨d1, d2⟩
        all_goals
          go_wp2
          go_quiet (fail)
          go_wp2
          go_roundw
          case rel => exact ⟨k + 1, by omega, by rw [HNX.out], by go_num, below_drewN HBW.out _⟩
          case measure => simp [intOf]; omega
      · have HNX := Lib.hid (show mostTo h v l (k + 1) = b by
          rw [most_keep (by rw [hgz]; exact h0) (by rw [HBB.out, hgx, hgy, hgz, e4]; exact hc)]; exact HBB.out)
        have d1 : decide (b < 0) = false := by simp; omega
        have d2 : decide (q < b) = false := by simp; omega
        clear gx gy gz hgx hgy hgz hdk hzk hq hc q1
        go_wp2
        go_quiet (fail)
        go_wp2
        go_roundw
        case rel => exact ⟨k + 1, by omega, by rw [HNX.out], by go_num, below_drewN HBW.out _⟩
        case measure => simp [intOf]; omega
    · obtain rfl : m = k := by omega
      have hR := HR.out
      rw [HBB.out] at hR
      by_cases hneg : b < 0
      · have d1 : decide (b < 0) = true := by simpa using hneg
        have HRR := Lib.hid (show (0, 12) = R by rw [if_pos hneg] at hR; exact hR)
        clear hR hneg
        go_wp2
        go_ret2
        exact ⟨by rw [← HRR.out]; rfl, HBT.out⟩
      · have d1 : decide (b < 0) = false := by simpa using hneg
        have HRR := Lib.hid (show (b, 0) = R by rw [if_neg hneg] at hR; exact hR)
        clear hR hneg
        go_wp2
        go_ret2
        exact ⟨by rw [← HRR.out]; rfl, HBT.out⟩
end Go.Proofs.Ytnepjgnnppfibaa

end
