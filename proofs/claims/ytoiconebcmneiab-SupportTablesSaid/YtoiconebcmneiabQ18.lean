import Derived.Test.YtoiconebcmneiabQ17
import Derived.Test.YtoiconebcmneiabQ14
import Derived.Test.YtoiconebcmneiabQ10

section
/- The contracts of the rockers that forces do not balance. -/
namespace Go.Proofs.Ytoiconebcmneiab
open Go Go.RowKit

theorem unb1_call (z : Int) (t : Bool) (ht : withinB z 0 1000000 = t) (w : World) : Calls Try.prog 65 #[.int .i64 z] w fun e w' => e = .returned (.bool (!t)) ∧ w = w' := by
  have HT := Lib.hid ht
  clear ht
  go_enter Try.func65, Try.ntmps65
  go_wp2_with fail
  refine (withinsup_is _ _ _ t HT.out _).mono ?_
  rintro e w' ⟨rfl, rfl⟩
  cases t
  all_goals
    go_wp2
    go_ret
    exact ⟨rfl, rfl⟩
theorem unb1_asks : Asks 65 (fun z => !(withinB z 0 1000000)) where
  ent := enters_of Try.func65 (by kernel_rfl) rfl
  call := fun z w => unb1_call z _ rfl w

/-- Is a rocker out of balance? -/
def unbB (l : List Rk) (S : List (Int × Int)) (i : Nat) : Bool := match l[i]?, S[i]? with
  | some r, some p => r.al * p.1 != r.ar * p.2
  | _, _ => false
def unbTo (l : List Rk) (S : List (Int × Int)) (k : Nat) : List Int := ((List.range k).filter (unbB l S)).map fun (i : Nat) => (i : Int)
theorem unbTo_succ (l : List Rk) (S : List (Int × Int)) (k : Nat) : unbTo l S (k + 1) = unbTo l S k ++ if unbB l S k then [(k : Int)] else [] := by
  unfold unbTo
  rw [List.range_succ, List.filter_append, List.map_append]
  congr 1
  cases h : unbB l S k <;> simp [h]
theorem unbTo_le (l : List Rk) (S : List (Int × Int)) (k : Nat) : (unbTo l S k).length ≤ k := by
  unfold unbTo
  rw [List.length_map]
  exact Nat.le_trans (List.length_filter_le _ _) (by simp)
theorem unbB_at {l : List Rk} {S : List (Int × Int)} {i : Nat} {r : Rk} {p : Int × Int} (hr : l[i]? = some r) (hp : S[i]? = some p) : unbB l S i = (r.al * p.1 != r.ar * p.2) := by
  unfold unbB; rw [hr, hp]

/-- The error of forces on a right tree. -/
def forcesErr (np : Nat) (xs : List Int) : Int := if xs.length ≠ np then 10 else if xs.any (fun z => !(withinB z 0 1000000)) then 2 else 0

def IntsPost (qs : List Int) (w : World) (e : Ending) (w' : World) : Prop :=
  Below w.heap.size w w' ∧ ∃ A' c', e = .returned (.tuple #[.slice A' qs.length c', .int .i64 0]) ∧ Reads w' w'.heap.size 1 A' qs.length (qs.map (.int .i64))

theorem unb_bad (l : List Rk) (hfits : ∀ r ∈ l, r.Fits) (A : Option Addr) (n c : Nat) (B : Option Addr) (m cb : Nat) (E : Int) (w : World) (hx : Reads w w.heap.size 5 A n (rkCells l)) (hn : n ≤ 100000) (hE : openErr l = E) (h0 : E ≠ 0) :
    Calls Try.prog 23 #[.slice A n c, .slice B m cb] w fun e w' => e = .returned (.tuple #[.slice none 0 0, .int .i64 E]) ∧ Below w.heap.size w w' := by
  have e1 : (E != 0) = true := by simpa using h0
  have H0 := Lib.hid h0
  have HE := Lib.hid hE
  clear h0 hE
  go_enter Try.func23, Try.ntmps23
  have R0_0 := Lib.hid hx
  clear hx
  go_wp2_with fail
  refine (forpoints_bad l hfits A n c (m : Int) E _ R0_0.out hn HE.out H0.out).mono ?_
  rintro e w1 ⟨rfl, hb⟩
  have HB1 := Lib.hid (show Below w.heap.size w w1 from step_below hb (by repeat' (first | exact Below.refl _ _ | exact HB0.out | refine below_drewN ?_ _ | refine Below.drew ?_ | refine Below.alloc ?_ (by first | omega | (simp; done) | (simp; omega) | (simp [World.setCell]; omega)) _ | refine Below.setCell ?_ (by first | omega | (simp; done) | (simp; omega)) _ | assumption)))
  have hL1 := Lib.hid (show Below w.heap.size w _ from reads_mid hb (by repeat' (first | exact Below.refl _ _ | refine below_drewN ?_ _ | refine Below.drew ?_ | refine Below.alloc ?_ (by first | omega | (simp; done) | (simp; omega) | (simp [World.setCell]; omega)) _ | refine Below.setCell ?_ (by first | omega | (simp; done) | (simp; omega)) _)))
  have R0_1 := Lib.hid (reads_lay hb hL1.out R0_0.out)
  clear hL1 R0_0
  have hz1 := hb.size
  try simp only [World.size_alloc, World.drewN, World.drew] at hz1
  clear hb
  go_wp2
  go_ret2
  refine ⟨rfl, ?_⟩
  repeat' (first | exact Below.refl _ _ | exact HB1.out | refine below_drewN ?_ _ | refine Below.drew ?_ | refine Below.alloc ?_ (by first | omega | (simp; done) | (simp; omega) | (simp [World.setCell]; omega)) _ | refine Below.setCell ?_ (by first | omega | (simp; done) | (simp; omega)) _ | assumption)

theorem unb_err (l : List Rk) (hfits : ∀ r ∈ l, r.Fits) (A : Option Addr) (n c : Nat) (B : Option Addr) (m cb : Nat) (xs : List Int) (w : World) (hx : Reads w w.heap.size 5 A n (rkCells l)) (hn : n ≤ 100000) (hy : Reads w w.heap.size 1 B m (xs.map (.int .i64))) (hm : m ≤ 1000000) (h0 : openErr l = 0) (ps : List ByteArray) (hp : ptsOf l = some ps) (hps : ps.length ≤ 1000000) (E : Int) (hE : forcesErr ps.length xs = E) (hE0 : E ≠ 0) :
    Calls Try.prog 23 #[.slice A n c, .slice B m cb] w fun e w' => e = .returned (.tuple #[.slice none 0 0, .int .i64 E]) ∧ Below w.heap.size w w' := by
  have hxl : xs.length = m := by have := hy.1; simpa using this
  have H0 := Lib.hid h0
  have HP := Lib.hid hp
  by_cases hmn : ps.length = m
  rotate_left
  · have e : E = 10 := by rw [← hE]; unfold forcesErr; rw [if_pos (by omega)]
    subst e
    have HMN := Lib.hid hmn
    clear hmn hp h0 hE
    go_enter Try.func23, Try.ntmps23
    have R0_0 := Lib.hid hx
    clear hx
    go_wp2_with fail
    refine (forpoints_no l hfits A n c m _ R0_0.out hn H0.out ps HP.out hps HMN.out).mono ?_
    rintro e w1 ⟨rfl, hb⟩
    have HB1 := Lib.hid (show Below w.heap.size w w1 from step_below hb (by repeat' (first | exact Below.refl _ _ | exact HB0.out | refine below_drewN ?_ _ | refine Below.drew ?_ | refine Below.alloc ?_ (by first | omega | (simp; done) | (simp; omega) | (simp [World.setCell]; omega)) _ | refine Below.setCell ?_ (by first | omega | (simp; done) | (simp; omega)) _ | assumption)))
    have hL1 := Lib.hid (show Below w.heap.size w _ from reads_mid hb (by repeat' (first | exact Below.refl _ _ | refine below_drewN ?_ _ | refine Below.drew ?_ | refine Below.alloc ?_ (by first | omega | (simp; done) | (simp; omega) | (simp [World.setCell]; omega)) _ | refine Below.setCell ?_ (by first | omega | (simp; done) | (simp; omega)) _)))
    have R0_1 := Lib.hid (reads_lay hb hL1.out R0_0.out)
    clear hL1 R0_0
    have hz1 := hb.size
    try simp only [World.size_alloc, World.drewN, World.drew] at hz1
    clear hb
    go_wp2
    go_ret2
    refine ⟨rfl, ?_⟩
    repeat' (first | exact Below.refl _ _ | exact HB1.out | refine below_drewN ?_ _ | refine Below.drew ?_ | refine Below.alloc ?_ (by first | omega | (simp; done) | (simp; omega) | (simp [World.setCell]; omega)) _ | refine Below.setCell ?_ (by first | omega | (simp; done) | (simp; omega)) _ | assumption)
  · have hany : xs.any (fun z => !(withinB z 0 1000000)) = true := by
      cases ha : xs.any (fun z => !(withinB z 0 1000000)) with
      | true => rfl
      | false =>
        unfold forcesErr at hE
        rw [if_neg (by omega), ha, if_neg (by simp)] at hE
        exact absurd hE.symm hE0
    have e : E = 2 := by rw [← hE]; unfold forcesErr; rw [if_neg (by omega), hany]; rfl
    subst e
    have HMN := Lib.hid hmn
    have HANY := Lib.hid hany
    clear hmn hp h0 hE hany
    go_enter Try.func23, Try.ntmps23
    have R0_0 := Lib.hid hx
    clear hx
    have R1_0 := Lib.hid hy
    clear hy
    go_wp2_with fail
    refine (forpoints_ok l hfits A n c m _ R0_0.out hn H0.out ps HP.out hps HMN.out).mono ?_
    rintro e w1 ⟨hb, tb, mb, rfl, -⟩
    have HB1 := Lib.hid (show Below w.heap.size w w1 from step_below hb (by repeat' (first | exact Below.refl _ _ | exact HB0.out | refine below_drewN ?_ _ | refine Below.drew ?_ | refine Below.alloc ?_ (by first | omega | (simp; done) | (simp; omega) | (simp [World.setCell]; omega)) _ | refine Below.setCell ?_ (by first | omega | (simp; done) | (simp; omega)) _ | assumption)))
    have hL1 := Lib.hid (show Below w.heap.size w _ from reads_mid hb (by repeat' (first | exact Below.refl _ _ | refine below_drewN ?_ _ | refine Below.drew ?_ | refine Below.alloc ?_ (by first | omega | (simp; done) | (simp; omega) | (simp [World.setCell]; omega)) _ | refine Below.setCell ?_ (by first | omega | (simp; done) | (simp; omega)) _)))
    have R0_1 := Lib.hid (reads_lay hb hL1.out R0_0.out)
    have R1_1 := Lib.hid (reads_lay hb hL1.out R1_0.out)
    clear hL1 R0_0 R1_0
    have hz1 := hb.size
    try simp only [World.size_alloc, World.drewN, World.drew] at hz1
    clear hb
    go_wp2_with fail
    refine (containsfunc_any _ _ unb1_asks B m cb _ xs _ R1_1.out (Nat.le_refl _) (by omega) true HANY.out).mono ?_
    rintro e w2 ⟨rfl, hb⟩
    have HB2 := Lib.hid (show Below w.heap.size w w2 from step_below hb (by repeat' (first | exact Below.refl _ _ | exact HB1.out | refine below_drewN ?_ _ | refine Below.drew ?_ | refine Below.alloc ?_ (by first | omega | (simp; done) | (simp; omega) | (simp [World.setCell]; omega)) _ | refine Below.setCell ?_ (by first | omega | (simp; done) | (simp; omega)) _ | assumption)))
    have hL2 := Lib.hid (show Below w1.heap.size w1 _ from reads_mid hb (by repeat' (first | exact Below.refl _ _ | refine below_drewN ?_ _ | refine Below.drew ?_ | refine Below.alloc ?_ (by first | omega | (simp; done) | (simp; omega) | (simp [World.setCell]; omega)) _ | refine Below.setCell ?_ (by first | omega | (simp; done) | (simp; omega)) _)))
    have R0_2 := Lib.hid (reads_lay hb hL2.out R0_1.out)
    have R1_2 := Lib.hid (reads_lay hb hL2.out R1_1.out)
    clear hL2 R0_1 R1_1
    have hz2 := hb.size
    try simp only [World.size_alloc, World.drewN, World.drew] at hz2
    clear hb
    go_wp2
    go_ret2
    refine ⟨rfl, ?_⟩
    repeat' (first | exact Below.refl _ _ | exact HB2.out | refine below_drewN ?_ _ | refine Below.drew ?_ | refine Below.alloc ?_ (by first | omega | (simp; done) | (simp; omega) | (simp [World.setCell]; omega)) _ | refine Below.setCell ?_ (by first | omega | (simp; done) | (simp; omega)) _ | assumption)

set_option maxRecDepth 100000 in
set_option maxHeartbeats 2000000 in
theorem unb_ok (l : List Rk) (hfits : ∀ r ∈ l, r.Fits) (A : Option Addr) (n c : Nat) (B : Option Addr) (m cb : Nat) (xs : List Int) (w : World) (hx : Reads w w.heap.size 5 A n (rkCells l)) (hn : n ≤ 1000) (hy : Reads w w.heap.size 1 B m (xs.map (.int .i64))) (hm : m ≤ 1000000) (h0 : openErr l = 0) (ps : List ByteArray) (hp : ptsOf l = some ps) (hps : ps.length ≤ 1000000) (hbl : ∀ s, (below_ l s).length ≤ 1000000) (hE : forcesErr ps.length xs = 0) :
    Calls Try.prog 23 #[.slice A n c, .slice B m cb] w (IntsPost (unbTo l (sidesOf l ps xs) n) w) := by
  obtain ⟨i0, hi0, hz0, hz1, hz2⟩ := info_parts info_int
  have hxl : xs.length = m := by have := hy.1; simpa using this
  have hln := hx.len5
  have hmn : ps.length = m := by
    unfold forcesErr at hE
    by_cases h : xs.length ≠ ps.length
    · rw [if_pos h] at hE; cases hE
    · omega
  have hany : xs.any (fun z => !(withinB z 0 1000000)) = false := by
    unfold forcesErr at hE
    rw [if_neg (by omega)] at hE
    cases ha : xs.any (fun z => !(withinB z 0 1000000)) with
    | false => rfl
    | true => rw [ha] at hE; cases hE
  have hxs : ∀ z ∈ xs, 0 ≤ z ∧ z ≤ 1000000 := fun z hz => by
    have := List.any_eq_false.1 hany z hz
    have h2 : withinB z 0 1000000 = true := by simpa using this
    exact (withinB_iff _ _ _).1 h2
  have harms := arms_of h0
  obtain ⟨z0, -⟩ := open_zero h0
  have htop := Lib.hid (topOf_lt z0)
  have H0 := Lib.hid h0
  have HP := Lib.hid hp
  have HMN := Lib.hid hmn
  have HANY := Lib.hid hany
  have HI0 := Lib.hid hi0
  have HZ0 := Lib.hid hz0
  have HZ1 := Lib.hid hz1
  have HZ2 := Lib.hid hz2
  have HLN := Lib.hid hln
  have hsl : (sidesOf l ps xs).length = n := by unfold sidesOf; rw [List.length_map, hln]
  have HSL := Lib.hid hsl
  clear hp h0 hE hany hmn hi0 hz0 hz1 hz2 hxl hln z0 hsl
  go_enter Try.func23, Try.ntmps23
  have R0_0 := Lib.hid hx
  clear hx
  have R1_0 := Lib.hid hy
  clear hy
  go_wp2_with fail
  refine (forpoints_ok l hfits A n c m _ R0_0.out (by omega) H0.out ps HP.out hps HMN.out).mono ?_
  rintro e w1 ⟨hb, tb, mb, rfl, ht⟩
  have HB1 := Lib.hid (show Below w.heap.size w w1 from step_below hb (by repeat' (first | exact Below.refl _ _ | exact HB0.out | refine below_drewN ?_ _ | refine Below.drew ?_ | refine Below.alloc ?_ (by first | omega | (simp; done) | (simp; omega) | (simp [World.setCell]; omega)) _ | refine Below.setCell ?_ (by first | omega | (simp; done) | (simp; omega)) _ | assumption)))
  have hL1 := Lib.hid (show Below w.heap.size w _ from reads_mid hb (by repeat' (first | exact Below.refl _ _ | refine below_drewN ?_ _ | refine Below.drew ?_ | refine Below.alloc ?_ (by first | omega | (simp; done) | (simp; omega) | (simp [World.setCell]; omega)) _ | refine Below.setCell ?_ (by first | omega | (simp; done) | (simp; omega)) _)))
  have R0_1 := Lib.hid (reads_lay hb hL1.out R0_0.out)
  have R1_1 := Lib.hid (reads_lay hb hL1.out R1_0.out)
  clear hL1 R0_0 R1_0
  have hz1 := hb.size
  try simp only [World.size_alloc, World.drewN, World.drew] at hz1
  clear hb
  have HT := Lib.hid ht
  clear ht
  go_wp2_with fail
  refine (containsfunc_any _ _ unb1_asks B m cb _ xs _ R1_1.out (Nat.le_refl _) (by omega) false HANY.out).mono ?_
  rintro e w2 ⟨rfl, hb2⟩
  have HT2 := Lib.hid ((HT.out.below hb2).more hb2.size)
  have HB2 := Lib.hid (show Below w.heap.size w w2 from step_below hb2 (by repeat' (first | exact Below.refl _ _ | exact HB1.out | refine below_drewN ?_ _ | refine Below.drew ?_ | refine Below.alloc ?_ (by first | omega | (simp; done) | (simp; omega) | (simp [World.setCell]; omega)) _ | refine Below.setCell ?_ (by first | omega | (simp; done) | (simp; omega)) _ | assumption)))
  have hL2 := Lib.hid (show Below w1.heap.size w1 _ from reads_mid hb2 (by repeat' (first | exact Below.refl _ _ | refine below_drewN ?_ _ | refine Below.drew ?_ | refine Below.alloc ?_ (by first | omega | (simp; done) | (simp; omega) | (simp [World.setCell]; omega)) _ | refine Below.setCell ?_ (by first | omega | (simp; done) | (simp; omega)) _)))
  have R0_2 := Lib.hid (reads_lay hb2 hL2.out R0_1.out)
  have R1_2 := Lib.hid (reads_lay hb2 hL2.out R1_1.out)
  clear hL2 R0_1 R1_1
  have hz2 := hb2.size
  try simp only [World.size_alloc, World.drewN, World.drew] at hz2
  clear hb2
  clear HT
  go_wp2_with fail
  refine (sums_any l hfits H0.out A n c tb mb hn ps HP.out hps B m cb xs HMN.out.symm hxs hbl _ HT2.out R1_2.out).mono ?_
  rintro e w3 ⟨hb, A3, c3, rfl, hr3, -⟩
  have HR3 := Lib.hid hr3
  have HB3 := Lib.hid (show Below w.heap.size w w3 from step_below hb (by repeat' (first | exact Below.refl _ _ | exact HB2.out | refine below_drewN ?_ _ | refine Below.drew ?_ | refine Below.alloc ?_ (by first | omega | (simp; done) | (simp; omega) | (simp [World.setCell]; omega)) _ | refine Below.setCell ?_ (by first | omega | (simp; done) | (simp; omega)) _ | assumption)))
  have hL3 := Lib.hid (show Below w2.heap.size w2 _ from reads_mid hb (by repeat' (first | exact Below.refl _ _ | refine below_drewN ?_ _ | refine Below.drew ?_ | refine Below.alloc ?_ (by first | omega | (simp; done) | (simp; omega) | (simp [World.setCell]; omega)) _ | refine Below.setCell ?_ (by first | omega | (simp; done) | (simp; omega)) _)))
  have R0_3 := Lib.hid (reads_lay hb hL3.out R0_2.out)
  have R1_3 := Lib.hid (reads_lay hb hL3.out R1_2.out)
  clear hL3 R0_2 R1_2
  have hz3 := hb.size
  try simp only [World.size_alloc, World.drewN, World.drew] at hz3
  clear hb
  clear HT2 hr3
  have hb3s := HB3.out.size
  go_wp2
  go_loopw [8, 27] (fun o i wr => ∃ k : Nat, k ≤ n ∧ i = .int .i64 k ∧ Below w3.heap.size w3 wr ∧ wr.ownsRow w3.heap.size 3 1 o (unbTo l (sidesOf l ps xs) k).length ((unbTo l (sidesOf l ps xs) k).map (.int .i64))) (fun _ i _ => n - (intOf i).toNat)
  case atStart => exact ⟨0, by omega, rfl, Below.refl _ _, World.ownsRow_nil _ _ _ _⟩
  case round =>
    obtain ⟨k, hk, rfl, hb, ho⟩ := hrel
    have HO := Lib.hid ho
    have HBR := Lib.hid hb
    clear ho hb
    have hbr := HBR.out.size
    by_cases hlt : k < n
    · obtain ⟨zb, zo, r, rfl, hzb, hr, -, -, -, c3', c4'⟩ := R0_3.out.rk hlt
      obtain ⟨yb, yo, p, rfl, hyb, hp, d0, d1⟩ := HR3.out.pair hlt
      rw [← HBR.out.cell (p := ⟨zb, zo + k * 5 + 3, none⟩) hzb] at c3'
      rw [← HBR.out.cell (p := ⟨zb, zo + k * 5 + 4, none⟩) hzb] at c4'
      rw [← HBR.out.cell (p := ⟨yb, yo + k * 2, none⟩) hyb] at d0
      rw [← HBR.out.cell (p := ⟨yb, yo + k * 2 + 1, none⟩) hyb] at d1
      have HU := Lib.hid (unbB_at hr hp)
      have HSU := Lib.hid (unbTo_succ l (sidesOf l ps xs) k)
      have hle := unbTo_le l (sidesOf l ps xs) k
      obtain ⟨a1, a2, a3, a4⟩ := harms r (List.mem_of_getElem? hr)
      have hpb : (0 ≤ p.1 ∧ p.1 ≤ 1000000000000) ∧ (0 ≤ p.2 ∧ p.2 ≤ 1000000000000) := by
        have e : p = (underI l ps xs r.left, underI l ps xs r.right) := by
          unfold sidesOf at hp
          rw [List.getElem?_map, hr] at hp
          exact (Option.some.inj hp).symm
        have h1 := sumF_bound (g := loadOf ps xs) (b := 1000000) (below_ l r.left) (fun s _ => loadOf_bound (by omega) hxs s)
        have h2 := sumF_bound (g := loadOf ps xs) (b := 1000000) (below_ l r.right) (fun s _ => loadOf_bound (by omega) hxs s)
        have h3 := hbl r.left
        have h4 := hbl r.right
        rw [e]
        unfold underI
        refine ⟨⟨h1.1, ?_⟩, ⟨h2.1, ?_⟩⟩ <;> simp only <;> omega
      obtain ⟨p1, p2⟩ := p
      simp only at hpb d0 d1 HU
      obtain ⟨⟨b1, b2⟩, b3, b4⟩ := hpb
      have m1 : 0 ≤ r.al * p1 := Int.mul_nonneg (by omega) b1
      have m2 : r.al * p1 ≤ 10000 * 1000000000000 := Int.mul_le_mul a2 b2 b1 (by omega)
      have m3 : 0 ≤ r.ar * p2 := Int.mul_nonneg (by omega) b3
      have m4 : r.ar * p2 ≤ 10000 * 1000000000000 := Int.mul_le_mul a4 b4 b3 (by omega)
      have q1 : IntKind.i64.wrap (r.al * p1) = r.al * p1 := IntWalk.i64_in _ ⟨by omega, by omega⟩
      have q2 : IntKind.i64.wrap (r.ar * p2) = r.ar * p2 := IntWalk.i64_in _ ⟨by omega, by omega⟩
      clear hr hp
      have hzr : zb < wr.heap.size := by omega
      have hyr : yb < wr.heap.size := by omega
      have HOW := Lib.hid ((HO.out.alloc (.cells #[.int .i64 p1, .int .i64 p2] 83)))
      cases hq : (r.al * p1 != r.ar * p2)
      all_goals
        go_wp2
        go_quiet (fail)
        clear q1 q2
        generalize hw5 : World.drewN _ _ = w5
        have HB5 : Hid (Below w3.heap.size w3 w5) := by show Below _ _ _; rw [← hw5]; exact below_drewN (HBR.out.alloc hbr _) _
        have HOX : Hid (w5.ownsRow w3.heap.size 3 1 u8 (unbTo l (sidesOf l ps xs) k).length ((unbTo l (sidesOf l ps xs) k).map (.int .i64))) := by show World.ownsRow _ _ _ _ _ _ _; rw [← hw5]; exact own_drewN HOW.out _
        have hb5s := HB5.out.size
        clear hw5
      · have HE : Hid (unbTo l (sidesOf l ps xs) (k + 1) = unbTo l (sidesOf l ps xs) k) := by show _ = _; rw [HSU.out, HU.out, hq]; simp
        go_wp2
        go_roundw
        case rel => exact ⟨k + 1, by omega, by go_num, HB5.out, by rw [HE.out]; exact HOX.out⟩
        case measure => simp [intOf]; omega
      · have HE : Hid (unbTo l (sidesOf l ps xs) (k + 1) = unbTo l (sidesOf l ps xs) k ++ [(k : Int)]) := by show _ = _; rw [HSU.out, HU.out, hq]; simp
        obtain ⟨W, hW⟩ : ∃ W, W = w5.alloc (.cells #[.int .i64 (k : Int)] 3) := ⟨_, rfl⟩
        have ho1 : W.ownsRow w3.heap.size 3 1 u8 (unbTo l (sidesOf l ps xs) k).length ((unbTo l (sidesOf l ps xs) k).map (.int .i64)) := by rw [hW]; exact HOX.out.alloc _
        have hnb : Blk W w5.heap.size 3 #[.int .i64 (k : Int)] := by rw [hW]; exact Blk.new _ _ _
        have hsz : W.heap.size = w5.heap.size + 1 := by rw [hW]; simp
        obtain ⟨v', W2, hrun, o2', hg2, hrow⟩ := run_append_any (P := Try.prog) W w3.heap.size 40 40 3 i0 _ 1 8 Try.underlying40 HI0.out HZ0.out HZ1.out HZ2.out rfl (by omega) u8 (unbTo l (sidesOf l ps xs) k).length _ ho1 W.heap.size (some ⟨w5.heap.size, 0, none⟩) 1 1 [.int .i64 (k : Int)] (Blk.reads hnb rfl) (by simp [Value.oneCell']) (by unfold maxLen; omega) (by omega) (by omega)
        rw [hW] at hrun
        have HRUN := Lib.hid hrun
        have hb2 : Below w3.heap.size w3 W2 := (show Below w3.heap.size w3 W by rw [hW]; exact HB5.out.alloc (by omega) _).grown hg2 (by omega) (fun g hg => (own_lt ho1 hg).1)
        have HB2' := Lib.hid hb2
        have HO2 : Hid (W2.ownsRow w3.heap.size 3 1 v' (unbTo l (sidesOf l ps xs) (k + 1)).length ((unbTo l (sidesOf l ps xs) (k + 1)).map (.int .i64))) := by
          show World.ownsRow _ _ _ _ _ _ _
          rw [HE.out, List.length_append, List.map_append]
          exact o2'
        clear hrun hg2 hrow hnb ho1 hW hsz hb2 o2'
        go_wp2_with (first | (at_builtin; refine wpList_app _ W2 v' rfl _ _ _ rfl _ _ rfl rfl HRUN.out ?_))
        go_roundw
        case rel => exact ⟨k + 1, by omega, by go_num, HB2'.out, HO2.out⟩
        case measure => simp [intOf]; omega
    · have hkn : k = n := by omega
      rw [hkn] at HO
      clear hkn
      obtain ⟨A4, c4, rfl, hr4⟩ := own_reads HO.out
      have HRR := Lib.hid hr4
      have HBE := Lib.hid (HB3.out.trans (HBR.out.mono hb3s))
      clear hr4
      go_wp2
      go_ret2
      exact ⟨HBE.out, A4, c4, rfl, HRR.out⟩

end Go.Proofs.Ytoiconebcmneiab

end
