import Derived.Test.YtfigbdhfmlhjdaaQ16
import Derived.Test.YtfigbdhfmlhjdaaQ8
import Derived.Test.YtfigbdhfmlhjdaaQ12
import Derived.Test.YtfigbdhfmlhjdaaQ17
import Derived.Test.YtfigbdhfmlhjdaaQ11
import Derived.Test.YtfigbdhfmlhjdaaQ14

section
/- Contracts of what asks for a number for each point, of the comparison of two lists of fractions, of the check of shares. -/
namespace Go.Proofs.Ytfigbdhfmlhjdaa
open Go.RowKit


/-- The tree that is open, and all that it stands on. -/
def ForPost (l : List Rk) (A : Option Addr) (n c : Nat) (w : World) (e : Ending) (w' : World) : Prop :=
  Below w.heap.size w w' ∧ ∃ tb mb, e = .returned (.tuple #[.pointer (some ⟨tb, 0, none⟩), .int .i64 0]) ∧ TreeAt l A n c tb mb (topOf l : Int) w'.heap.size w'

set_option maxHeartbeats 1000000 in
theorem forpoints_ok (l : List Rk) (hfits : ∀ r ∈ l, r.Fits) (A : Option Addr) (n c m : Nat) (w : World) (hx : Reads w w.heap.size 5 A n (rkCells l)) (hn : n ≤ 100000) (h0 : openErr l = 0) (ps : List ByteArray) (hp : ptsOf l = some ps) (hps : ps.length ≤ 1000000) (hm : ps.length = m) :
    Calls Try.prog 26 #[.slice A n c, .int .i64 (m : Int)] w (ForPost l A n c w) := by
  obtain ⟨z0, -⟩ := open_zero h0
  have htop := topOf_lt z0
  have H0 := Lib.hid h0
  have HPS := Lib.hid hp
  have htop' := Lib.hid htop
  have HX := Lib.hid hx
  subst hm
  clear h0 hp z0 htop hx
  have hx := HX.out
  go_enter Try.func26, Try.ntmps26
  have R0_0 := Lib.hid hx
  clear hx
  go_wp2_with fail
  refine (open_ok l hfits A n c _ _ R0_0.out (Nat.le_refl _) (by omega) H0.out).mono ?_
  rintro e w1 ⟨rfl, hb, ht, hm⟩
  have HB1 := Lib.hid (show Below w.heap.size w w1 from step_below hb (by repeat' (first | exact Below.refl _ _ | exact HB0.out | refine below_drewN ?_ _ | refine Below.drew ?_ | refine Below.alloc ?_ (by first | omega | (simp; done) | (simp; omega) | (simp [World.setCell]; omega)) _ | refine Below.setCell ?_ (by first | omega | (simp; done) | (simp; omega)) _ | assumption)))
  have hL1 := Lib.hid (show Below w.heap.size w _ from reads_mid hb (by repeat' (first | exact Below.refl _ _ | refine below_drewN ?_ _ | refine Below.drew ?_ | refine Below.alloc ?_ (by first | omega | (simp; done) | (simp; omega) | (simp [World.setCell]; omega)) _ | refine Below.setCell ?_ (by first | omega | (simp; done) | (simp; omega)) _)))
  have R0_1 := Lib.hid (reads_lay hb hL1.out R0_0.out)
  clear hL1 R0_0
  have hz1 := hb.size
  try simp only [World.size_alloc, World.drewN, World.drew] at hz1
  clear hb
  have HT := Lib.hid (TreeAt.of R0_1.out (Nat.le_refl _) ht hm)
  clear ht hm
  go_wp2_with fail
  refine (points_any l hfits A n c _ _ w1 (by omega) HT.out htop'.out ps HPS.out hps).mono ?_
  rintro e w2 ⟨hb2, A', c', rfl, hown⟩
  have HB2 := Lib.hid (HB1.out.trans (hb2.mono (by omega)))
  have HT2 := Lib.hid ((HT.out.below hb2).more hb2.size)
  have hq : ((ps.length : Int) != (ps.length : Int)) = false := by simp
  clear hown hb2
  go_wp2
  go_ret2
  exact ⟨HB2.out, _, _, rfl, HT2.out⟩

end Go.Proofs.Ytfigbdhfmlhjdaa

end

section
/- Contracts of the search of a list by a function value, and of the copy of a train. -/
namespace Go.Proofs.Ytfigbdhfmlhjdaa
open Go Go.RowKit

/-- A function value that asks something of a number, and changes nothing. -/
structure Asks (k : FuncId) (pr : Int → Bool) : Prop where
  ent : ∀ (args : Array Value) (w : World), (callFunc k args).run Try.prog w = .ok (.enter k args) w
  call : ∀ (z : Int) (w : World), Calls Try.prog k #[.int .i64 z] w fun e w' => e = .returned (.bool (pr z)) ∧ w = w'

theorem Asks.is {k : FuncId} {pr : Int → Bool} (h : Asks k pr) (z : Int) (t : Bool) (ht : pr z = t) (w : World) : Calls Try.prog k #[.int .i64 z] w fun e w' => e = .returned (.bool t) ∧ w = w' := ht ▸ h.call z w

theorem any_take {pr : Int → Bool} {l : List Int} {k : Nat} {z : Int} (hz : l[k]? = some z) (h : (l.take k).any pr = false) (hp : pr z = false) : (l.take (k + 1)).any pr = false := by
  rw [List.take_add_one, hz]
  simp [List.any_append, h, hp]

set_option maxRecDepth 100000 in
theorem indexfunc_any (k : FuncId) (pr : Int → Bool) (hk : Asks k pr) (A : Option Addr) (n c N : Nat) (l : List Int) (w : World) (hx : Reads w N 1 A n (l.map (.int .i64))) (hN : N ≤ w.heap.size) (hn : n ≤ 9223372036854775807) :
    Calls Try.prog 67 #[.slice A n c, .func (.func k) #[] #[]] w fun e w' => (∃ r : Int, e = .returned (.int .i64 r) ∧ (0 ≤ r ↔ l.any pr = true)) ∧ Below w.heap.size w w' := by
  have hxl : l.length = n := by have := hx.1; simpa using this
  have HX := Lib.hid hx
  have HXL := Lib.hid hxl
  have hent := hk.ent
  have HK := Lib.hid hk
  clear hx hxl hk
  go_enter Try.func67, Try.ntmps67
  go_wp2
  go_loopw [8] (fun i wr => ∃ q : Nat, q ≤ n ∧ i = .int .i64 q ∧ (l.take q).any pr = false ∧ Below w.heap.size w wr) (fun i _ => n - (intOf i).toNat)
  case atStart => exact ⟨0, by omega, rfl, by simp, Below.refl _ _⟩
  case round =>
    obtain ⟨q, hq, rfl, ht, hb⟩ := hrel
    have HT := Lib.hid ht
    have HB := Lib.hid hb
    clear ht hb
    by_cases hlt : q < n
    · obtain ⟨xb, xo, u, rfl, hxb, hu, c0⟩ := (HX.out.belowLe HB.out hN).at_ hlt
      obtain ⟨z, hz, rfl⟩ : ∃ z, l[q]? = some z ∧ .int .i64 z = u := by
        rw [List.getElem?_map] at hu
        cases h : l[q]? with
        | none => rw [h] at hu; cases hu
        | some t => rw [h] at hu; exact ⟨t, rfl, Option.some.inj hu⟩
      have HZ := Lib.hid hz
      clear hu hz
      cases hp : pr z with
      | false =>
        have HP := Lib.hid hp
        clear hp
        go_wp2
        refine (HK.out.is z false HP.out _).mono ?_
        rintro e w' ⟨rfl, rfl⟩
        go_wp2
        go_roundw
        case rel => exact ⟨q + 1, by omega, by go_num, any_take HZ.out HT.out HP.out, HB.out⟩
        case measure => simp [intOf]; omega
      | true =>
        have HP := Lib.hid hp
        clear hp
        go_wp2
        refine (HK.out.is z true HP.out _).mono ?_
        rintro e w' ⟨rfl, rfl⟩
        go_wp2
        go_ret
        refine ⟨⟨_, rfl, ?_⟩, HB.out⟩
        have : l.any pr = true := List.any_eq_true.2 ⟨z, List.mem_of_getElem? HZ.out, HP.out⟩
        simp [this]
    · go_wp2
      go_ret
      refine ⟨⟨_, rfl, ?_⟩, HB.out⟩
      have ht := HT.out
      rw [List.take_of_length_le (by rw [HXL.out]; omega)] at ht
      rw [ht]
      simp

theorem containsfunc_any (k : FuncId) (pr : Int → Bool) (hk : Asks k pr) (A : Option Addr) (n c N : Nat) (l : List Int) (w : World) (hx : Reads w N 1 A n (l.map (.int .i64))) (hN : N ≤ w.heap.size) (hn : n ≤ 9223372036854775807) (t : Bool) (ht : l.any pr = t) :
    Calls Try.prog 42 #[.slice A n c, .func (.func k) #[] #[]] w fun e w' => e = .returned (.bool t) ∧ Below w.heap.size w w' := by
  have HX := Lib.hid hx
  have HT := Lib.hid ht
  have HI := Lib.hid (indexfunc_any k pr hk A n c N l)
  clear hx ht
  go_enter Try.func42, Try.ntmps42
  go_wp2_with fail
  refine (HI.out w HX.out hN hn).mono ?_
  rintro e w1 ⟨⟨r, rfl, hr⟩, hb⟩
  have HR := Lib.hid hr
  have HB := Lib.hid hb
  clear hr hb
  cases t with
  | false =>
    have h : ¬ 0 ≤ r := fun h => by have := HR.out.1 h; rw [HT.out] at this; cases this
    have h' : r < 0 := by omega
    go_wp2
    go_ret
    exact ⟨by first | rfl | (simp; done) | (simp; omega), HB.out⟩
  | true =>
    have h := HR.out.2 HT.out
    go_wp2
    go_ret
    exact ⟨by first | rfl | (simp; done) | (simp; omega), HB.out⟩



theorem eq_nil_pairs (A : Option Addr) (n c : Nat) (w : World) : (Op.equalIn 10000 60 (.slice A n c) (.slice none 0 0)).run Try.prog w = .ok A.isNone w := by
  show (Op.equalIn (9999 + 1) _ _ _).run _ w = _
  rw [Op.equalIn.eq_def]
  cases A <;> simp [Sem.run_bind, run_underlying Try.underlying60]

@[go_sem ↓ high] theorem eql_nil_pairs (A : Option Addr) (n c : Nat) (w : World) : (binOp .eql 60 (.slice A n c) (.slice none 0 0)).run Try.prog w = .ok (.bool A.isNone) w := by
  simp only [binOp]
  simp [Op.equal, Op.maxDepth, eq_nil_pairs]


end Go.Proofs.Ytfigbdhfmlhjdaa

end

section
/- The contracts of the rockers that forces do not balance. -/
namespace Go.Proofs.Ytfigbdhfmlhjdaa
open Go Go.RowKit

theorem unb1_call (z : Int) (t : Bool) (ht : withinB z 0 1000000 = t) (w : World) : Calls Try.prog 43 #[.int .i64 z] w fun e w' => e = .returned (.bool (!t)) ∧ w = w' := by
  have HT := Lib.hid ht
  clear ht
  go_enter Try.func43, Try.ntmps43
  go_wp2_with fail
  refine (withinsup_is _ _ _ t HT.out _).mono ?_
  rintro e w' ⟨rfl, rfl⟩
  cases t
  all_goals
    go_wp2
    go_ret
    exact ⟨rfl, rfl⟩
theorem unb1_asks : Asks 43 (fun z => !(withinB z 0 1000000)) where
  ent := enters_of Try.func43 (by kernel_rfl) rfl
  call := fun z w => unb1_call z _ rfl w

/-- Is a rocker out of balance? -/
def unbB (l : List Rk) (S : List (Int × Int)) (i : Nat) : Bool := match l[i]?, S[i]? with
  | some r, some p => r.al * p.1 != r.ar * p.2
  | _, _ => false
def unbTo (l : List Rk) (S : List (Int × Int)) (k : Nat) : List Int := ((List.range k).filter (unbB l S)).map fun (i : Nat) => (i : Int)
theorem unbTo_succ (l : List Rk) (S : List (Int × Int)) (k : Nat) : unbTo l S (k + 1) = unbTo l S k ++ if unbB l S k then [(k : Int)] else [] := by
  unfold unbTo
  rw [List.range_succ, List.filter_append, List.map_append]
  congr 1
  cases h : unbB l S k <;> simp [h]
theorem unbTo_le (l : List Rk) (S : List (Int × Int)) (k : Nat) : (unbTo l S k).length ≤ k := by
  unfold unbTo
  rw [List.length_map]
  exact Nat.le_trans (List.length_filter_le _ _) (by simp)
theorem unbB_at {l : List Rk} {S : List (Int × Int)} {i : Nat} {r : Rk} {p : Int × Int} (hr : l[i]? = some r) (hp : S[i]? = some p) : unbB l S i = (r.al * p.1 != r.ar * p.2) := by
  unfold unbB; rw [hr, hp]

/-- The error of forces on a right tree. -/
def forcesErr (np : Nat) (xs : List Int) : Int := if xs.length ≠ np then 10 else if xs.any (fun z => !(withinB z 0 1000000)) then 2 else 0

def IntsPost (qs : List Int) (w : World) (e : Ending) (w' : World) : Prop :=
  Below w.heap.size w w' ∧ ∃ A' c', e = .returned (.tuple #[.slice A' qs.length c', .int .i64 0]) ∧ Reads w' w'.heap.size 1 A' qs.length (qs.map (.int .i64))

set_option maxRecDepth 100000 in
set_option maxHeartbeats 2000000 in
theorem unb_ok (l : List Rk) (hfits : ∀ r ∈ l, r.Fits) (A : Option Addr) (n c : Nat) (B : Option Addr) (m cb : Nat) (xs : List Int) (w : World) (hx : Reads w w.heap.size 5 A n (rkCells l)) (hn : n ≤ 1000) (hy : Reads w w.heap.size 1 B m (xs.map (.int .i64))) (hm : m ≤ 1000000) (h0 : openErr l = 0) (ps : List ByteArray) (hp : ptsOf l = some ps) (hps : ps.length ≤ 1000000) (hbl : ∀ s, (below_ l s).length ≤ 1000000) (hE : forcesErr ps.length xs = 0) :
    Calls Try.prog 21 #[.slice A n c, .slice B m cb] w (IntsPost (unbTo l (sidesOf l ps xs) n) w) := by
  obtain ⟨i0, hi0, hz0, hz1, hz2⟩ := info_parts info_int
  have hxl : xs.length = m := by have := hy.1; simpa using this
  have hln := hx.len5
  have hmn : ps.length = m := by
    unfold forcesErr at hE
    by_cases h : xs.length ≠ ps.length
    · rw [if_pos h] at hE; cases hE
    · omega
  have hany : xs.any (fun z => !(withinB z 0 1000000)) = false := by
    unfold forcesErr at hE
    rw [if_neg (by omega)] at hE
    cases ha : xs.any (fun z => !(withinB z 0 1000000)) with
    | false => rfl
    | true => rw [ha] at hE; cases hE
  have hxs : ∀ z ∈ xs, 0 ≤ z ∧ z ≤ 1000000 := fun z hz => by
    have := List.any_eq_false.1 hany z hz
    have h2 : withinB z 0 1000000 = true := by simpa using this
    exact (withinB_iff _ _ _).1 h2
  have harms := arms_of h0
  obtain ⟨z0, -⟩ := open_zero h0
  have htop := Lib.hid (topOf_lt z0)
  have H0 := Lib.hid h0
  have HP := Lib.hid hp
  have HMN := Lib.hid hmn
  have HANY := Lib.hid hany
  have HI0 := Lib.hid hi0
  have HZ0 := Lib.hid hz0
  have HZ1 := Lib.hid hz1
  have HZ2 := Lib.hid hz2
  have HLN := Lib.hid hln
  have hsl : (sidesOf l ps xs).length = n := by unfold sidesOf; rw [List.length_map, hln]
  have HSL := Lib.hid hsl
  clear hp h0 hE hany hmn hi0 hz0 hz1 hz2 hxl hln z0 hsl
  go_enter Try.func21, Try.ntmps21
  have R0_0 := Lib.hid hx
  clear hx
  have R1_0 := Lib.hid hy
  clear hy
  go_wp2_with fail
  refine (forpoints_ok l hfits A n c m _ R0_0.out (by omega) H0.out ps HP.out hps HMN.out).mono ?_
  rintro e w1 ⟨hb, tb, mb, rfl, ht⟩
  have HB1 := Lib.hid (show Below w.heap.size w w1 from step_below hb (by repeat' (first | exact Below.refl _ _ | exact HB0.out | refine below_drewN ?_ _ | refine Below.drew ?_ | refine Below.alloc ?_ (by first | omega | (simp; done) | (simp; omega) | (simp [World.setCell]; omega)) _ | refine Below.setCell ?_ (by first | omega | (simp; done) | (simp; omega)) _ | assumption)))
  have hL1 := Lib.hid (show Below w.heap.size w _ from reads_mid hb (by repeat' (first | exact Below.refl _ _ | refine below_drewN ?_ _ | refine Below.drew ?_ | refine Below.alloc ?_ (by first | omega | (simp; done) | (simp; omega) | (simp [World.setCell]; omega)) _ | refine Below.setCell ?_ (by first | omega | (simp; done) | (simp; omega)) _)))
  have R0_1 := Lib.hid (reads_lay hb hL1.out R0_0.out)
  have R1_1 := Lib.hid (reads_lay hb hL1.out R1_0.out)
  clear hL1 R0_0 R1_0
  have hz1 := hb.size
  try simp only [World.size_alloc, World.drewN, World.drew] at hz1
  clear hb
  have HT := Lib.hid ht
  clear ht
  go_wp2_with fail
  refine (containsfunc_any _ _ unb1_asks B m cb _ xs _ R1_1.out (Nat.le_refl _) (by omega) false HANY.out).mono ?_
  rintro e w2 ⟨rfl, hb2⟩
  have HT2 := Lib.hid ((HT.out.below hb2).more hb2.size)
  have HB2 := Lib.hid (show Below w.heap.size w w2 from step_below hb2 (by repeat' (first | exact Below.refl _ _ | exact HB1.out | refine below_drewN ?_ _ | refine Below.drew ?_ | refine Below.alloc ?_ (by first | omega | (simp; done) | (simp; omega) | (simp [World.setCell]; omega)) _ | refine Below.setCell ?_ (by first | omega | (simp; done) | (simp; omega)) _ | assumption)))
  have hL2 := Lib.hid (show Below w1.heap.size w1 _ from reads_mid hb2 (by repeat' (first | exact Below.refl _ _ | refine below_drewN ?_ _ | refine Below.drew ?_ | refine Below.alloc ?_ (by first | omega | (simp; done) | (simp; omega) | (simp [World.setCell]; omega)) _ | refine Below.setCell ?_ (by first | omega | (simp; done) | (simp; omega)) _)))
  have R0_2 := Lib.hid (reads_lay hb2 hL2.out R0_1.out)
  have R1_2 := Lib.hid (reads_lay hb2 hL2.out R1_1.out)
  clear hL2 R0_1 R1_1
  have hz2 := hb2.size
  try simp only [World.size_alloc, World.drewN, World.drew] at hz2
  clear hb2
  clear HT
  go_wp2_with fail
  refine (sums_any l hfits H0.out A n c tb mb hn ps HP.out hps B m cb xs HMN.out.symm hxs hbl _ HT2.out R1_2.out).mono ?_
  rintro e w3 ⟨hb, A3, c3, rfl, hr3, -⟩
  have HR3 := Lib.hid hr3
  have HB3 := Lib.hid (show Below w.heap.size w w3 from step_below hb (by repeat' (first | exact Below.refl _ _ | exact HB2.out | refine below_drewN ?_ _ | refine Below.drew ?_ | refine Below.alloc ?_ (by first | omega | (simp; done) | (simp; omega) | (simp [World.setCell]; omega)) _ | refine Below.setCell ?_ (by first | omega | (simp; done) | (simp; omega)) _ | assumption)))
  have hL3 := Lib.hid (show Below w2.heap.size w2 _ from reads_mid hb (by repeat' (first | exact Below.refl _ _ | refine below_drewN ?_ _ | refine Below.drew ?_ | refine Below.alloc ?_ (by first | omega | (simp; done) | (simp; omega) | (simp [World.setCell]; omega)) _ | refine Below.setCell ?_ (by first | omega | (simp; done) | (simp; omega)) _)))
  have R0_3 := Lib.hid (reads_lay hb hL3.out R0_2.out)
  have R1_3 := Lib.hid (reads_lay hb hL3.out R1_2.out)
  clear hL3 R0_2 R1_2
  have hz3 := hb.size
  try simp only [World.size_alloc, World.drewN, World.drew] at hz3
  clear hb
  clear HT2 hr3
  have hb3s := HB3.out.size
  go_wp2
  go_loopw [8, 27] (fun o i wr => ∃ k : Nat, k ≤ n ∧ i = .int .i64 k ∧ Below w3.heap.size w3 wr ∧ wr.ownsRow w3.heap.size 3 1 o (unbTo l (sidesOf l ps xs) k).length ((unbTo l (sidesOf l ps xs) k).map (.int .i64))) (fun _ i _ => n - (intOf i).toNat)
  case atStart => exact ⟨0, by omega, rfl, Below.refl _ _, World.ownsRow_nil _ _ _ _⟩
  case round =>
    obtain ⟨k, hk, rfl, hb, ho⟩ := hrel
    have HO := Lib.hid ho
    have HBR := Lib.hid hb
    clear ho hb
    have hbr := HBR.out.size
    by_cases hlt : k < n
    · obtain ⟨zb, zo, r, rfl, hzb, hr, -, -, -, c3', c4'⟩ := R0_3.out.rk hlt
      obtain ⟨yb, yo, p, rfl, hyb, hp, d0, d1⟩ := HR3.out.pair hlt
      rw [← HBR.out.cell (p := ⟨zb, zo + k * 5 + 3, none⟩) hzb] at c3'
      rw [← HBR.out.cell (p := ⟨zb, zo + k * 5 + 4, none⟩) hzb] at c4'
      rw [← HBR.out.cell (p := ⟨yb, yo + k * 2, none⟩) hyb] at d0
      rw [← HBR.out.cell (p := ⟨yb, yo + k * 2 + 1, none⟩) hyb] at d1
      have HU := Lib.hid (unbB_at hr hp)
      have HSU := Lib.hid (unbTo_succ l (sidesOf l ps xs) k)
      have hle := unbTo_le l (sidesOf l ps xs) k
      obtain ⟨a1, a2, a3, a4⟩ := harms r (List.mem_of_getElem? hr)
      have hpb : (0 ≤ p.1 ∧ p.1 ≤ 1000000000000) ∧ (0 ≤ p.2 ∧ p.2 ≤ 1000000000000) := by
        have e : p = (underI l ps xs r.left, underI l ps xs r.right) := by
          unfold sidesOf at hp
          rw [List.getElem?_map, hr] at hp
          exact (Option.some.inj hp).symm
        have h1 := sumF_bound (g := loadOf ps xs) (b := 1000000) (below_ l r.left) (fun s _ => loadOf_bound (by omega) hxs s)
        have h2 := sumF_bound (g := loadOf ps xs) (b := 1000000) (below_ l r.right) (fun s _ => loadOf_bound (by omega) hxs s)
        have h3 := hbl r.left
        have h4 := hbl r.right
        rw [e]
        unfold underI
        refine ⟨⟨h1.1, ?_⟩, ⟨h2.1, ?_⟩⟩ <;> simp only <;> omega
      obtain ⟨p1, p2⟩ := p
      simp only at hpb d0 d1 HU
      obtain ⟨⟨b1, b2⟩, b3, b4⟩ := hpb
      have m1 : 0 ≤ r.al * p1 := Int.mul_nonneg (by omega) b1
      have m2 : r.al * p1 ≤ 10000 * 1000000000000 := Int.mul_le_mul a2 b2 b1 (by omega)
      have m3 : 0 ≤ r.ar * p2 := Int.mul_nonneg (by omega) b3
      have m4 : r.ar * p2 ≤ 10000 * 1000000000000 := Int.mul_le_mul a4 b4 b3 (by omega)
      have q1 : IntKind.i64.wrap (r.al * p1) = r.al * p1 := IntWalk.i64_in _ ⟨by omega, by omega⟩
      have q2 : IntKind.i64.wrap (r.ar * p2) = r.ar * p2 := IntWalk.i64_in _ ⟨by omega, by omega⟩
      clear hr hp
      have hzr : zb < wr.heap.size := by omega
      have hyr : yb < wr.heap.size := by omega
      have HOW := Lib.hid ((HO.out.alloc (.cells #[.int .i64 p1, .int .i64 p2] 50)))
      cases hq : (r.al * p1 != r.ar * p2)
      all_goals
        go_wp2
        go_quiet (fail)
        clear q1 q2
        generalize hw5 : World.drewN _ _ = w5
        have HB5 : Hid (Below w3.heap.size w3 w5) := by show Below _ _ _; rw [← hw5]; exact below_drewN (HBR.out.alloc hbr _) _
        have HOX : Hid (w5.ownsRow w3.heap.size 3 1 u8 (unbTo l (sidesOf l ps xs) k).length ((unbTo l (sidesOf l ps xs) k).map (.int .i64))) := by show World.ownsRow _ _ _ _ _ _ _; rw [← hw5]; exact own_drewN HOW.out _
        have hb5s := HB5.out.size
        clear hw5
      · have HE : Hid (unbTo l (sidesOf l ps xs) (k + 1) = unbTo l (sidesOf l ps xs) k) := by show _ = _; rw [HSU.out, HU.out, hq]; simp
        go_wp2
        go_roundw
        case rel => exact ⟨k + 1, by omega, by go_num, HB5.out, by rw [HE.out]; exact HOX.out⟩
        case measure => simp [intOf]; omega
      · have HE : Hid (unbTo l (sidesOf l ps xs) (k + 1) = unbTo l (sidesOf l ps xs) k ++ [(k : Int)]) := by show _ = _; rw [HSU.out, HU.out, hq]; simp
        obtain ⟨W, hW⟩ : ∃ W, W = w5.alloc (.cells #[.int .i64 (k : Int)] 3) := ⟨_, rfl⟩
        have ho1 : W.ownsRow w3.heap.size 3 1 u8 (unbTo l (sidesOf l ps xs) k).length ((unbTo l (sidesOf l ps xs) k).map (.int .i64)) := by rw [hW]; exact HOX.out.alloc _
        have hnb : Blk W w5.heap.size 3 #[.int .i64 (k : Int)] := by rw [hW]; exact Blk.new _ _ _
        have hsz : W.heap.size = w5.heap.size + 1 := by rw [hW]; simp
        obtain ⟨v', W2, hrun, o2', hg2, hrow⟩ := run_append_any (P := Try.prog) W w3.heap.size 52 52 3 i0 _ 1 8 Try.underlying52 HI0.out HZ0.out HZ1.out HZ2.out rfl (by omega) u8 (unbTo l (sidesOf l ps xs) k).length _ ho1 W.heap.size (some ⟨w5.heap.size, 0, none⟩) 1 1 [.int .i64 (k : Int)] (Blk.reads hnb rfl) (by simp [Value.oneCell']) (by unfold maxLen; omega) (by omega) (by omega)
        rw [hW] at hrun
        have HRUN := Lib.hid hrun
        have hb2 : Below w3.heap.size w3 W2 := (show Below w3.heap.size w3 W by rw [hW]; exact HB5.out.alloc (by omega) _).grown hg2 (by omega) (fun g hg => (own_lt ho1 hg).1)
        have HB2' := Lib.hid hb2
        have HO2 : Hid (W2.ownsRow w3.heap.size 3 1 v' (unbTo l (sidesOf l ps xs) (k + 1)).length ((unbTo l (sidesOf l ps xs) (k + 1)).map (.int .i64))) := by
          show World.ownsRow _ _ _ _ _ _ _
          rw [HE.out, List.length_append, List.map_append]
          exact o2'
        clear hrun hg2 hrow hnb ho1 hW hsz hb2 o2'
        go_wp2_with (first | (at_builtin; refine wpList_app _ W2 v' rfl _ _ _ rfl _ _ rfl rfl HRUN.out ?_))
        go_roundw
        case rel => exact ⟨k + 1, by omega, by go_num, HB2'.out, HO2.out⟩
        case measure => simp [intOf]; omega
    · have hkn : k = n := by omega
      rw [hkn] at HO
      clear hkn
      obtain ⟨A4, c4, rfl, hr4⟩ := own_reads HO.out
      have HRR := Lib.hid hr4
      have HBE := Lib.hid (HB3.out.trans (HBR.out.mono hb3s))
      clear hr4
      go_wp2
      go_ret2
      exact ⟨HBE.out, A4, c4, rfl, HRR.out⟩

end Go.Proofs.Ytfigbdhfmlhjdaa

end

section
/- The plain law of arms: the tree with new arms has the same names; its shares are the loads. -/
namespace Go.Proofs.Ytfigbdhfmlhjdaa
open Go.RowKit

/-- A rocker without its arms. -/
def bare (r : Rk) : Rk := { r with al := 1, ar := 1 }
theorem bare_idx (l : List Rk) (s : ByteArray) : idxOf (l.map bare) s = idxOf l s := by
  unfold idxOf; rw [List.findIdx?_map]; rfl
theorem bare_bearer (l : List Rk) (s : ByteArray) : bearerOf (l.map bare) s = bearerOf l s := by
  unfold bearerOf; rw [List.findIdx?_map]; rfl
theorem bare_name (l : List Rk) (i : Nat) : ((l.map bare)[i]?).map (·.name) = (l[i]?).map (·.name) := by
  rw [List.getElem?_map, Option.map_map]; rfl
theorem bare_tops (l : List Rk) : topsOf (l.map bare) = topsOf l := by
  unfold topsOf topsTo
  rw [List.length_map]
  congr 1
  funext i
  unfold isTop
  rw [List.getElem?_map]
  cases l[i]? with
  | none => rfl
  | some r => simp only [Option.map_some]; rw [bare_bearer]; rfl
theorem bare_top (l : List Rk) : topName (l.map bare) = topName l := by
  unfold topName topOf; rw [bare_tops, bare_name]
theorem bare_pts (l : List Rk) : ∀ (f : Nat) (s : ByteArray), pts (l.map bare) f s = pts l f s := by
  intro f
  induction f with
  | zero => intro s; unfold pts; rw [bare_idx]
  | succ f ih =>
    intro s
    unfold pts
    rw [bare_idx]
    cases idxOf l s with
    | none => rfl
    | some i =>
      simp only
      rw [List.getElem?_map]
      cases l[i]? with
      | none => rfl
      | some r =>
        simp only [Option.map_some]
        rw [ih, ih]
        rfl

/-- Two trees with the same names. -/
def Alike (l x : List Rk) : Prop := l.map bare = x.map bare
theorem Alike.len {l x : List Rk} (h : Alike l x) : l.length = x.length := by have := congrArg List.length h; simpa using this
theorem Alike.pts {l x : List Rk} (h : Alike l x) (f : Nat) (s : ByteArray) : pts x f s = pts l f s := by rw [← bare_pts, ← bare_pts l, h]
theorem Alike.top {l x : List Rk} (h : Alike l x) : topName x = topName l := by rw [← bare_top, ← bare_top l, h]
theorem Alike.ptsOf {l x : List Rk} (h : Alike l x) : ptsOf x = ptsOf l := by
  unfold Proofs.Ytfigbdhfmlhjdaa.ptsOf; rw [h.pts, h.top, h.len]
theorem Alike.below {l x : List Rk} (h : Alike l x) (s : ByteArray) : below_ x s = below_ l s := by
  unfold below_; rw [h.pts, h.len]

/-- The arms that balance two loads. -/
def armR (r : Rk) (p : Int × Int) : Rk := { r with al := redN p.2 p.1, ar := redD p.2 p.1 }
def armsTo (l : List Rk) (S : List (Int × Int)) (k : Nat) : List Rk := (List.zipWith armR l S).take k ++ l.drop k
def bigA (p : Int × Int) : Bool := decide (10000 < redN p.2 p.1) || decide (10000 < redD p.2 p.1)
/-- The errors of loads. -/
def armsErr (np : Nat) (xs : List Int) : Int := if xs.length ≠ np then 10 else if xs.any (fun z => !(withinB z 1 1000000)) then 2 else 0

theorem pts_le {l : List Rk} {f g : Nat} (h : f ≤ g) {s : ByteArray} {ps : List ByteArray} (hp : pts l f s = some ps) : pts l g s = some ps := by
  induction g with
  | zero => obtain rfl : f = 0 := by omega
            exact hp
  | succ g ih =>
    by_cases e : f = g + 1
    · rw [← e]; exact hp
    · exact pts_mono _ _ _ (ih (by omega))
theorem below_of {l : List Rk} {f : Nat} (h : f ≤ l.length) {s : ByteArray} {ps : List ByteArray} (hp : pts l f s = some ps) : below_ l s = ps := by
  unfold below_; rw [pts_le h hp]; rfl

end Go.Proofs.Ytfigbdhfmlhjdaa

end

section
/- Plain law: each point carries its share: the shares add up to the whole, the pivot of the top is the sum of places times shares, the shares balance all rockers. -/
namespace Go.Proofs.Ytfigbdhfmlhjdaa
open Go.RowKit

/-- The value of a fraction. -/
noncomputable def vl (p : Int × Int) : Rat := (p.1 : Rat) / (p.2 : Rat)
def rsum : List Rat → Rat
  | [] => 0
  | x :: l => x + rsum l
theorem rsum_append : ∀ a b : List Rat, rsum (a ++ b) = rsum a + rsum b
  | [], b => by show rsum b = 0 + rsum b; grind
  | x :: a, b => by show x + rsum (a ++ b) = x + rsum a + rsum b; rw [rsum_append a b]; grind
theorem rat_ne {z : Int} (h : z ≠ 0) : (z : Rat) ≠ 0 := by exact_mod_cast h
theorem red_val {a b : Int} (hb : b ≠ 0) : vl (redN a b, redD a b) = (a : Rat) / (b : Rat) := by
  have hp : 0 < Int.gcd a b := Int.gcd_pos_of_ne_zero_right a hb
  have h1 : redN a b * (Int.gcd a b : Int) = a := Int.ediv_mul_cancel (Int.gcd_dvd_left a b)
  have h2 : redD a b * (Int.gcd a b : Int) = b := Int.ediv_mul_cancel (Int.gcd_dvd_right a b)
  obtain ⟨g, hg⟩ : ∃ g : Int, (Int.gcd a b : Int) = g := ⟨_, rfl⟩
  obtain ⟨x, hx⟩ : ∃ x, redN a b = x := ⟨_, rfl⟩
  obtain ⟨y, hy⟩ : ∃ y, redD a b = y := ⟨_, rfl⟩
  rw [hg, hx] at h1
  rw [hg, hy] at h2
  rw [hx, hy]
  have hg0 : g ≠ 0 := by omega
  have hy0 : y ≠ 0 := fun e => hb (by rw [← h2, e, Int.zero_mul])
  have q1 := rat_ne hg0
  have q2 := rat_ne hy0
  have q3 := rat_ne hb
  have e1 : (a : Rat) = (x : Rat) * (g : Rat) := by exact_mod_cast h1.symm
  have e2 : (b : Rat) = (y : Rat) * (g : Rat) := by exact_mod_cast h2.symm
  unfold vl
  simp only
  rw [e2] at q3
  rw [e1, e2]
  grind
theorem op_val {a b : Int} {p : Int × Int} (hb : b ≠ 0) (h : opF a b = some p) : vl p = (a : Rat) / (b : Rat) := by
  obtain ⟨-, h1, h2⟩ := opF_some h
  rw [← red_val hb, h1, h2]
theorem fok_ne {p : Int × Int} (h : FOk p) : p.2 ≠ 0 := by have := h.parts.1; omega
theorem add_val {a b p : Int × Int} (ha : FOk a) (hb : FOk b) (h : addF a b = some p) : vl p = vl a + vl b := by
  have h1 := fok_ne ha
  have h2 := fok_ne hb
  have q1 := rat_ne h1
  have q2 := rat_ne h2
  rw [op_val (Int.mul_ne_zero h1 h2) h]
  unfold vl
  push_cast
  grind
theorem sub_val {a b p : Int × Int} (ha : FOk a) (hb : FOk b) (h : subF a b = some p) : vl p = vl a - vl b := by
  have h1 := fok_ne ha
  have h2 := fok_ne hb
  have q1 := rat_ne h1
  have q2 := rat_ne h2
  rw [op_val (Int.mul_ne_zero h1 h2) h]
  unfold vl
  push_cast
  grind
theorem mul_val {a b p : Int × Int} (ha : FOk a) (hb : FOk b) (h : mulF a b = some p) : vl p = vl a * vl b := by
  have h1 := fok_ne ha
  have h2 := fok_ne hb
  have q1 := rat_ne h1
  have q2 := rat_ne h2
  rw [op_val (Int.mul_ne_zero h1 h2) h]
  unfold vl
  push_cast
  grind
theorem vl_int (z : Int) : vl (z, 1) = (z : Rat) := by unfold vl; simp only; grind
/-- Right fractions of one value are alike. -/
theorem fok_eq {p q : Int × Int} (hp : FOk p) (hq : FOk q) (h : vl p = vl q) : p = q := by
  obtain ⟨p1, -, -, -, pg⟩ := fracErr_in hp
  obtain ⟨q1, -, -, -, qg⟩ := fracErr_in hq
  have a1 := rat_ne (show p.2 ≠ 0 by omega)
  have a2 := rat_ne (show q.2 ≠ 0 by omega)
  have hx : p.1 * q.2 = q.1 * p.2 := by
    unfold vl at h
    have : (p.1 : Rat) * (q.2 : Rat) = (q.1 : Rat) * (p.2 : Rat) := by grind
    exact_mod_cast this
  have d1 : p.2 ∣ q.2 := by
    have h1 : p.2 ∣ p.1 * q.2 := ⟨q.1, by rw [hx, Int.mul_comm]⟩
    have h2 := Int.dvd_gcd_mul_iff_dvd_mul.2 h1
    rw [Int.gcd_comm, pg] at h2
    simpa using h2
  have d2 : q.2 ∣ p.2 := by
    have h1 : q.2 ∣ q.1 * p.2 := ⟨p.1, by rw [← hx, Int.mul_comm]⟩
    have h2 := Int.dvd_gcd_mul_iff_dvd_mul.2 h1
    rw [Int.gcd_comm, qg] at h2
    simpa using h2
  have e2 : p.2 = q.2 := Int.le_antisymm (Int.le_of_dvd (by omega) d1) (Int.le_of_dvd (by omega) d2)
  have e1 : p.1 = q.1 := by
    rw [e2] at hx
    exact Int.eq_of_mul_eq_mul_right (by omega) hx
  exact Prod.ext e1 e2

/-! The shares below a thing. -/
theorem join_some {a b : Option (List (Int × Int))} {ys : List (Int × Int)} (h : join2 a b = some ys) : ∃ x y, a = some x ∧ b = some y ∧ ys = x ++ y := by
  cases a with
  | none => cases b <;> cases h
  | some x =>
    cases b with
    | none => cases h
    | some y => exact ⟨x, y, rfl, rfl, (Option.some.inj h).symm⟩
/-- One step of shares. -/
theorem sh_step {l : List Rk} {f : Nat} {s : ByteArray} {n d : Int} {i : Nat} {r : Rk} {ys : List (Int × Int)} (hi : idxOf l s = some i) (hr : l[i]? = some r) (h : sh l (f + 1) s n d = some ys) :
    ∃ x y, sh l f r.left (redN (n * r.ar) (d * (r.al + r.ar))) (redD (n * r.ar) (d * (r.al + r.ar))) = some x ∧ sh l f r.right (redN (n * r.al) (d * (r.al + r.ar))) (redD (n * r.al) (d * (r.al + r.ar))) = some y ∧ ys = x ++ y := by
  have e : sh l (f + 1) s n d = if smallB (n * r.ar) (d * (r.al + r.ar)) && smallB (n * r.al) (d * (r.al + r.ar)) then
          join2 (sh l f r.left (redN (n * r.ar) (d * (r.al + r.ar))) (redD (n * r.ar) (d * (r.al + r.ar)))) (sh l f r.right (redN (n * r.al) (d * (r.al + r.ar))) (redD (n * r.al) (d * (r.al + r.ar))))
        else none := by
    show (match idxOf l s with | none => _ | some i => _) = _
    rw [hi]
    simp only [hr]
  rw [e] at h
  split at h
  · exact join_some h
  · cases h
theorem sh_stop {l : List Rk} {f : Nat} {s : ByteArray} {n d : Int} (hi : idxOf l s = none) : sh l f s n d = some [(n, d)] := by
  cases f with
  | zero => rfl
  | succ f =>
    show (match idxOf l s with | none => _ | some i => _) = _
    rw [hi]
theorem redD_ne {a b : Int} (hb : b ≠ 0) : redD a b ≠ 0 := fun e => by
  have h2 : redD a b * (Int.gcd a b : Int) = b := Int.ediv_mul_cancel (Int.gcd_dvd_right a b)
  rw [e, Int.zero_mul] at h2
  exact hb h2.symm
theorem pts_step {l : List Rk} {f : Nat} {s : ByteArray} {ps : List ByteArray} {i : Nat} {r : Rk} (hi : idxOf l s = some i) (hr : l[i]? = some r) (h : pts l (f + 1) s = some ps) : ∃ pa pb, pts l f r.left = some pa ∧ pts l f r.right = some pb ∧ ps = pa ++ pb := by
  unfold pts at h
  rw [hi] at h
  simp only [hr] at h
  cases ha : pts l f r.left with
  | none => rw [ha] at h; cases h
  | some pa =>
    cases hb : pts l f r.right with
    | none => rw [ha, hb] at h; cases h
    | some pb =>
      rw [ha, hb] at h
      exact ⟨pa, pb, rfl, rfl, (Option.some.inj h).symm⟩
/-- The share of a side. -/
theorem side_val {n d a b : Int} (hd : d ≠ 0) (hab : a + b ≠ 0) (x : Int) : vl (redN (n * x) (d * (a + b)), redD (n * x) (d * (a + b))) = vl (n, d) * ((x : Rat) / ((a : Rat) + (b : Rat))) := by
  have q1 := rat_ne hd
  have q2 := rat_ne hab
  rw [red_val (Int.mul_ne_zero hd hab)]
  unfold vl
  push_cast
  push_cast at q2
  grind
theorem sh_sum {l : List Rk} (harms : ArmsOK l) : ∀ (f : Nat) (s : ByteArray) (n d : Int) (ps : List ByteArray) (ys : List (Int × Int)), d ≠ 0 → pts l f s = some ps → sh l f s n d = some ys → rsum (ys.map vl) = vl (n, d)
  | 0, s, n, d, ps, ys, hd, hp, h => by
    obtain rfl : [(n, d)] = ys := Option.some.inj h
    show vl (n, d) + 0 = _
    grind
  | f + 1, s, n, d, ps, ys, hd, hp, h => by
    cases hi : idxOf l s with
    | none =>
      rw [sh_stop hi] at h
      obtain rfl : [(n, d)] = ys := Option.some.inj h
      show vl (n, d) + 0 = _
      grind
    | some i =>
      obtain ⟨r, hr, -⟩ := idx_get hi
      obtain ⟨x, y, hx, hy, rfl⟩ := sh_step hi hr h
      obtain ⟨pa, pb, ha, hb, -⟩ := pts_step hi hr hp
      obtain ⟨a1, a2, a3, a4⟩ := harms r (List.mem_of_getElem? hr)
      have hab : r.al + r.ar ≠ 0 := by omega
      have hdd := Int.mul_ne_zero hd hab
      rw [List.map_append, rsum_append, sh_sum harms f _ _ _ _ _ (redD_ne hdd) ha hx, sh_sum harms f _ _ _ _ _ (redD_ne hdd) hb hy, side_val hd hab, side_val hd hab]
      have q := rat_ne hab
      push_cast at q
      grind
/-- Places times shares. -/
def wsum (g : ByteArray → Int) : List (Int × Int) → List ByteArray → Rat
  | y :: ys, x :: xs => ((y.1 : Rat) / (y.2 : Rat)) * (g x : Rat) + wsum g ys xs
  | _, _ => 0
theorem wsum_append {g : ByteArray → Int} : ∀ {a b : List (Int × Int)} {c d : List ByteArray}, a.length = c.length → wsum g (a ++ b) (c ++ d) = wsum g a c + wsum g b d
  | [], b, [], d, _ => by show wsum g b d = 0 + wsum g b d; grind
  | x :: a, b, y :: c, d, h => by
    show _ + wsum g (a ++ b) (c ++ d) = _ + wsum g a c + wsum g b d
    rw [wsum_append (by simpa using h)]
    grind
theorem part_val {al ar : Int} (h : al + ar ≠ 0) : vl (partF al ar) = (al : Rat) / ((al : Rat) + (ar : Rat)) := by
  unfold partF
  rw [red_val h]
  push_cast
  rfl
theorem step_val {a b : Int × Int} {al ar : Int} (ha : FOk a) (hb : FOk b) (h1 : 1 ≤ al) (h2 : al ≤ 10000) (h3 : 1 ≤ ar) (h4 : ar ≤ 10000) (hs : stepOK a b al ar = true) : vl (stepD a b al ar) = vl a + (vl b - vl a) * ((al : Rat) / ((al : Rat) + (ar : Rat))) := by
  have hp := part_ok h1 h2 h3 h4
  unfold stepOK at hs
  rw [Bool.and_eq_true, Bool.and_eq_true] at hs
  obtain ⟨⟨s1, s2⟩, s3⟩ := hs
  obtain ⟨d, hd⟩ := Option.isSome_iff_exists.1 s1
  rw [hd] at s2 s3
  have e1 : mustF (some d) = d := rfl
  rw [e1] at s2 s3
  obtain ⟨q, hq⟩ := Option.isSome_iff_exists.1 s2
  rw [hq] at s3
  have e2 : mustF (some q) = q := rfl
  rw [e2] at s3
  obtain ⟨t, ht⟩ := Option.isSome_iff_exists.1 s3
  have e3 : stepD a b al ar = t := by unfold stepD; rw [hd, e1, hq, e2, ht]; rfl
  have fd : FOk d := by
    obtain ⟨p1, p2, -, -⟩ := ha.parts
    obtain ⟨q1, q2, -, -⟩ := hb.parts
    exact opF_ok (den_in q1 q2 p1 p2).1 hd
  have fq : FOk q := by
    obtain ⟨p1, p2, -, -⟩ := fd.parts
    obtain ⟨q1, q2, -, -⟩ := hp.parts
    exact opF_ok (den_in p1 p2 q1 q2).1 hq
  rw [e3, add_val ha fq ht, mul_val fd hp hq, sub_val hb ha hd, part_val (by omega)]
theorem sh_wsum {l : List Rk} (harms : ArmsOK l) {g : ByteArray → Int} (hg : ∀ s, -1000000 ≤ g s ∧ g s ≤ 1000000) : ∀ (f : Nat) (s : ByteArray) (n d : Int) (ps : List ByteArray) (ys : List (Int × Int)), d ≠ 0 → pts l f s = some ps → sh l f s n d = some ys → flF l g f s = false → wsum g ys ps = vl (n, d) * vl (plD l g f s)
  | 0, s, n, d, ps, ys, hd, hp, h, hf => by
    obtain rfl : [(n, d)] = ys := Option.some.inj h
    unfold pts at hp
    cases hi : idxOf l s with
    | some i => rw [hi] at hp; cases hp
    | none =>
      rw [hi] at hp
      obtain rfl : [s] = ps := Option.some.inj hp
      show vl (n, d) * (g s : Rat) + 0 = vl (n, d) * vl (g s, 1)
      rw [vl_int]
      grind
  | f + 1, s, n, d, ps, ys, hd, hp, h, hf => by
    cases hi : idxOf l s with
    | none =>
      rw [sh_stop hi] at h
      obtain rfl : [(n, d)] = ys := Option.some.inj h
      rw [pts_leaf hi] at hp
      obtain rfl : [s] = ps := Option.some.inj hp
      have e : plD l g (f + 1) s = (g s, 1) := by unfold plD; rw [hi]
      rw [e]
      show vl (n, d) * (g s : Rat) + 0 = vl (n, d) * vl (g s, 1)
      rw [vl_int]
      grind
    | some i =>
      obtain ⟨r, hr, -⟩ := idx_get hi
      obtain ⟨x, y, hx, hy, rfl⟩ := sh_step hi hr h
      obtain ⟨pa, pb, ha, hb, rfl⟩ := pts_step hi hr hp
      obtain ⟨a1, a2, a3, a4⟩ := harms r (List.mem_of_getElem? hr)
      have hab : r.al + r.ar ≠ 0 := by omega
      have hdd := Int.mul_ne_zero hd hab
      have e1 : plD l g (f + 1) s = stepD (plD l g f r.left) (plD l g f r.right) r.al r.ar := by rw [plD, hi]; simp only [hr]
      have e2 : flF l g (f + 1) s = (flF l g f r.left || flF l g f r.right || !stepOK (plD l g f r.left) (plD l g f r.right) r.al r.ar) := by rw [flF, hi]; simp only [hr]
      rw [e2, Bool.or_eq_false_iff, Bool.or_eq_false_iff] at hf
      obtain ⟨⟨f1, f2⟩, f3⟩ := hf
      have hl := sh_length l f r.left _ _ pa x ha hx
      rw [wsum_append hl, sh_wsum harms hg f _ _ _ _ _ (redD_ne hdd) ha hx f1, sh_wsum harms hg f _ _ _ _ _ (redD_ne hdd) hb hy f2, side_val hd hab, side_val hd hab, e1, step_val (plD_ok harms hg f r.left) (plD_ok harms hg f r.right) a1 a2 a3 a4 (by simpa using f3)]
      have q := rat_ne hab
      push_cast at q
      grind
end Go.Proofs.Ytfigbdhfmlhjdaa

end
