import Derived.Test.YtcggceincmljdaaQ1
import Derived.Test.YtcggceincmljdaaQ4
import Derived.Test.YtcggceincmljdaaQ2
import Derived.Laws.OwnMore
import Derived.Deep.CutBlock
import Derived.BigRegion

section
/- Turned maps that are right are accepted. -/
namespace Go.Proofs.Ytcggceincmljdaa
open Go Go.RowKit

/-- Right turned maps. -/
structure TurnOk (n k : Nat) (t : List TRow) : Prop where
  n1 : 1 ≤ n ∧ n ≤ 24
  k1 : 1 ≤ k ∧ k ≤ 12
  div : n % k = 0
  len : t.length = k
  row : ∀ r ∈ t, r.n = n ∧ r.xs.length = n ∧ ∀ z ∈ r.xs, -100000 ≤ z ∧ z ≤ 100000

theorem turn1_call (n : Nat) (r : TRow) (hr : r.n = n) (vb : Nat) (w : World) (hv : w.cell? ⟨vb, 0, none⟩ = some (.int .i64 n)) :
    Calls Try.prog 34 #[.slice r.A r.n r.c, .pointer (some ⟨vb, 0, none⟩)] w fun e w' => e = .returned (.bool false) ∧ w = w' := by
  subst hr
  have e : ((r.n : Int) != (r.n : Int)) = false := by simp
  go_enter Try.func34, Try.ntmps34
  go_wp2
  go_ret
  exact ⟨rfl, rfl⟩
theorem turn2_call (z : Int) (t : Bool) (ht : withinB z (-100000) 100000 = t) (w : World) : Calls Try.prog 35 #[.int .i64 z] w fun e w' => e = .returned (.bool (!t)) ∧ w = w' := by
  have HT := Lib.hid ht
  clear ht
  go_enter Try.func35, Try.ntmps35
  go_wp2_with fail
  refine (withinprof_is _ _ _ t HT.out _).mono ?_
  rintro e w' ⟨rfl, rfl⟩
  go_wp2
  go_ret
  exact ⟨rfl, rfl⟩
def farZ (z : Int) : Bool := !(withinB z (-100000) 100000)
theorem turn2_asks : Asks 35 farZ where
  ent := enters_of Try.func35 (by kernel_rfl) rfl
  call := fun z w => turn2_call z _ rfl w
theorem near_all {xs : List Int} (h : ∀ z ∈ xs, -100000 ≤ z ∧ z ≤ 100000) : xs.any farZ = false := by
  rw [List.any_eq_false]
  intro z hz
  unfold farZ
  rw [(withinB_iff z _ _).2 (h z hz)]
  simp

set_option maxRecDepth 100000 in
theorem indexturn_is (A : Option Addr) (n k c vb : Nat) (t : List TRow) (w : World) (hx : ReadsT w w.heap.size A k t) (hk : k ≤ 9223372036854775807) (hv : w.cell? ⟨vb, 0, none⟩ = some (.int .i64 n)) (hvb : vb < w.heap.size) (ht : ∀ r ∈ t, r.n = n) :
    Calls Try.prog 38 #[.slice A k c, .func (.func 34) #[] #[.pointer (some ⟨vb, 0, none⟩)]] w fun e w' => e = .returned (.int .i64 (-1)) ∧ Below w.heap.size w w' := by
  have HX := Lib.hid hx
  have HT := Lib.hid ht
  have hent : ∀ (args : Array Value) (w : World), (callFunc 34 args).run Try.prog w = .ok (.enter 34 args) w := enters_of Try.func34 (by kernel_rfl) rfl
  clear hx ht
  go_enter Try.func38, Try.ntmps38
  go_wp2
  go_loopw [8] (fun i wr => ∃ q : Nat, q ≤ k ∧ i = .int .i64 q ∧ Below w.heap.size w wr) (fun i _ => k - (intOf i).toNat)
  case atStart => exact ⟨0, by omega, rfl, Below.refl _ _⟩
  case round =>
    obtain ⟨q, hq, rfl, hb⟩ := hrel
    have HB := Lib.hid hb
    have hbs := hb.size
    clear hb
    by_cases hlt : q < k
    · obtain ⟨xb, xo, r, rfl, hxb, hr, c0, hrc, -, -⟩ := HX.out.at_ hlt
      have f0 := (HB.out.cell (p := ⟨xb, xo + q, none⟩) hxb).trans c0
      have fv := (HB.out.cell (p := ⟨vb, 0, none⟩) hvb).trans hv
      have HR := Lib.hid (HT.out r (List.mem_of_getElem? hr))
      clear hr c0
      go_wp2_with fail
      refine (turn1_call n r HR.out vb _ fv).mono ?_
      rintro e w' ⟨rfl, rfl⟩
      go_wp2
      go_roundw
      case rel => exact ⟨q + 1, by omega, by go_num, HB.out⟩
      case measure => simp [intOf]; omega
    · go_wp2
      go_ret
      exact ⟨rfl, HB.out⟩
theorem containsturn_is (A : Option Addr) (n k c vb : Nat) (t : List TRow) (w : World) (hx : ReadsT w w.heap.size A k t) (hk : k ≤ 9223372036854775807) (hv : w.cell? ⟨vb, 0, none⟩ = some (.int .i64 n)) (hvb : vb < w.heap.size) (ht : ∀ r ∈ t, r.n = n) :
    Calls Try.prog 33 #[.slice A k c, .func (.func 34) #[] #[.pointer (some ⟨vb, 0, none⟩)]] w fun e w' => e = .returned (.bool false) ∧ Below w.heap.size w w' := by
  have HI := Lib.hid (indexturn_is A n k c vb t w hx hk hv hvb ht)
  clear hx hv ht
  go_enter Try.func33, Try.ntmps33
  go_wp2_with fail
  refine HI.out.mono ?_
  rintro e w1 ⟨rfl, hb⟩
  have HB := Lib.hid hb
  clear hb
  go_wp2
  go_ret
  exact ⟨rfl, HB.out⟩

set_option maxRecDepth 100000 in
set_option maxHeartbeats 2000000 in
theorem checkturned_ok (A : Option Addr) (n k c : Nat) (t : List TRow) (hok : TurnOk n k t) (w : World) (hx : ReadsT w w.heap.size A k t) :
    Calls Try.prog 25 #[.agg #[.int .i64 n, .slice A k c]] w fun e w' => e = .returned (.int .i64 0) ∧ Below w.heap.size w w' := by
  have hmf : ∀ (fn : Fn) (first cap : Array Value) (w : World), (Instr.makeFunc fn first cap).run Try.prog w = .ok (.func fn first cap) w := fun _ _ _ _ => rfl
  have hn := hok.n1
  have hk := hok.k1
  have hd : (n : Int).tmod k = 0 := by rw [Int.tmod_eq_emod_of_nonneg (by omega)]; have := hok.div; omega
  have hk0 : ((k : Int) == 0) = false := by simp; omega
  have H1 := Lib.hid (within_mk' (show (1 : Int) ≤ (n : Int) by omega) (show (n : Int) ≤ 24 by omega))
  have H2 := Lib.hid (within_mk' (show (1 : Int) ≤ (k : Int) by omega) (show (k : Int) ≤ 12 by omega))
  have HOK := Lib.hid hok
  have HX := Lib.hid hx
  clear hok hx
  go_enter Try.func25, Try.ntmps25
  go_wp2_with fail
  generalize hwn : (w.alloc (.cells #[.int .i64 ((n : Int)), .slice A k c] 45)) = w1
  have hbn : Below w.heap.size w w1 := by rw [← hwn]; repeat' (first | exact Below.refl _ _ | refine below_drewN ?_ _ | refine Below.drew ?_ | refine Below.alloc ?_ (by first | omega | (simp; done) | (simp; omega) | (simp [World.setCell]; omega)) _ | refine Below.setCell ?_ (by first | omega | (simp; done) | (simp; omega)) _)
  have HB1 := Lib.hid (show Below w.heap.size w w1 from hbn)
  have K0_1 := Lib.hid (show Blk w1 (w.heap.size) 45 #[.int .i64 ((n : Int)), .slice A k c] by rw [← hwn]; repeat' (first | exact Blk.at_ _ (by first | rfl | (simp; done) | (simp; omega)) _ _ | refine Blk.drewN ?_ _ | refine Blk.drew ?_ | refine Blk.alloc ?_ _ | refine Blk.far ?_ (by first | omega | (simp; done) | (simp; omega)) _ | assumption))
  have HN1 := Lib.hid hbn
  have hz1 := hbn.size
  clear hwn hbn
  have l0_1 : w.heap.size < w1.heap.size := K0_1.out.lt
  have z0_0_1 : w1.cell? ⟨w.heap.size, 0, none⟩ = some (.int .i64 ((n : Int))) := K0_1.out.cell 0
  have z0_1_1 : w1.cell? ⟨w.heap.size, 1, none⟩ = some (.slice A k c) := K0_1.out.cell 1
  go_wp2_with fail
  refine (withinprof_is _ _ _ true H1.out _).mono ?_
  rintro e w' ⟨rfl, rfl⟩
  go_wp2_with fail
  go_wp2_with fail
  refine (withinprof_is _ _ _ true H2.out _).mono ?_
  rintro e w' ⟨rfl, rfl⟩
  have g0 := (HX.out.below HB1.out).more HB1.out.size
  have R0_1 := Lib.hid g0
  clear g0
  go_wp2_with fail
  refine (containsturn_is A n k c w.heap.size t _ R0_1.out (by omega) z0_0_1 l0_1 (fun r hr => (HOK.out.row r hr).1)).mono ?_
  rintro e w2 ⟨rfl, hb⟩
  have HB2 := Lib.hid (show Below w.heap.size w w2 from step_below hb (by repeat' (first | exact Below.refl _ _ | exact HB1.out | refine below_drewN ?_ _ | refine Below.drew ?_ | refine Below.alloc ?_ (by first | omega | (simp; done) | (simp; omega) | (simp [World.setCell]; omega)) _ | refine Below.setCell ?_ (by first | omega | (simp; done) | (simp; omega)) _ | assumption)))
  have K0_2 := Lib.hid (step_blk hb (show Blk _ (w.heap.size) 45 #[.int .i64 ((n : Int)), .slice A k c] by repeat' (first | exact K0_1.out | exact Blk.at_ _ (by first | rfl | (simp; done) | (simp; omega)) _ _ | refine Blk.drewN ?_ _ | refine Blk.drew ?_ | refine Blk.alloc ?_ _ | refine Blk.far ?_ (by first | omega | (simp; done) | (simp; omega)) _ | assumption)))
  have hL2 := Lib.hid (show Below w1.heap.size w1 _ from reads_mid hb (by repeat' (first | exact Below.refl _ _ | refine below_drewN ?_ _ | refine Below.drew ?_ | refine Below.alloc ?_ (by first | omega | (simp; done) | (simp; omega) | (simp [World.setCell]; omega)) _ | refine Below.setCell ?_ (by first | omega | (simp; done) | (simp; omega)) _)))
  have R0_2 := Lib.hid (readsT_lay hb hL2.out R0_1.out)
  clear hL2 R0_1
  have hz2 := hb.size
  try simp only [World.size_alloc, World.drewN, World.drew] at hz2
  clear hb K0_1 z0_0_1 z0_1_1 l0_1
  have l0_2 : w.heap.size < w2.heap.size := K0_2.out.lt
  have z0_0_2 : w2.cell? ⟨w.heap.size, 0, none⟩ = some (.int .i64 ((n : Int))) := K0_2.out.cell 0
  have z0_1_2 : w2.cell? ⟨w.heap.size, 1, none⟩ = some (.slice A k c) := K0_2.out.cell 1
  go_wp2
  have RT := R0_2
  clear R0_2
  go_loopw [32] (fun x wr => ∃ i : Nat, i ≤ k ∧ x = .int .i64 i ∧ Below w2.heap.size w2 wr) (fun x _ => k - (intOf x).toNat)
  case atStart => exact ⟨0, by omega, rfl, Below.refl _ _⟩
  case round =>
    obtain ⟨i, hi, rfl, hbk⟩ := hrel
    have HBK := Lib.hid hbk
    have hbs := hbk.size
    have HBF := Lib.hid (HB2.out.trans (hbk.mono HB2.out.size))
    clear hbk
    by_cases hlt : i < k
    rotate_left
    · go_wp2
      go_ret
      exact ⟨rfl, HBF.out⟩
    have hii : (i : Int) < (k : Int) := by omega
    have e1 := IntWalk.i64_in ((i : Int) + 1) ⟨by omega, by omega⟩
    obtain ⟨xb, xo, r, rfl, hxb, hr, c0, hrc, hrl, hrr⟩ := RT.out.at_ hlt
    have f0 := (HBK.out.cell (p := ⟨xb, xo + i, none⟩) hxb).trans c0
    have HRR := Lib.hid ((hrr.below HBK.out).more hbs)
    have HNA := Lib.hid (near_all (HOK.out.row r (List.mem_of_getElem? hr)).2.2)
    clear hr c0 hrr
    go_wp2_with fail
    refine (containsfunc_any _ farZ turn2_asks r.A r.n r.c _ r.xs _ HRR.out (Nat.le_refl _) (by omega) false HNA.out).mono ?_
    rintro e w3 ⟨rfl, hb3⟩
    have HB3 := Lib.hid (HBK.out.trans (hb3.mono hbs))
    clear hb3
    go_wp2
    go_roundw
    case rel => exact ⟨i + 1, by omega, by go_num, HB3.out⟩
    case measure => simp [intOf]; omega
end Go.Proofs.Ytcggceincmljdaa

end

section
/- What a piece of a walk leaves as it was: all blocks but some; rows of cells given by a function. -/
namespace Go.Proofs.Ytcggceincmljdaa
open Go.RowKit

/-- All that was there, apart from the blocks of X, is as it was. -/
structure Tch (X : Nat → Prop) (w w' : World) : Prop where
  os : w'.os = w.os
  tape : w'.tape = w.tape
  output : w'.output = w.output
  size : w.heap.size ≤ w'.heap.size
  block : ∀ i, i < w.heap.size → ¬ X i → w'.heap[i]? = w.heap[i]?
section
variable {X Y : Nat → Prop} {w w' w'' : World}
theorem Tch.refl (X : Nat → Prop) (w : World) : Tch X w w := ⟨rfl, rfl, rfl, Nat.le_refl _, fun _ _ _ => rfl⟩
theorem Tch.trans (h : Tch X w w') (k : Tch X w' w'') : Tch X w w'' := ⟨k.os.trans h.os, k.tape.trans h.tape, k.output.trans h.output, Nat.le_trans h.size k.size, fun i hi hx => (k.block i (Nat.lt_of_lt_of_le hi h.size) hx).trans (h.block i hi hx)⟩
theorem Tch.mono (h : Tch X w w') (hs : ∀ i, i < w.heap.size → X i → Y i) : Tch Y w w' := ⟨h.os, h.tape, h.output, h.size, fun i hi hy => h.block i hi fun hx => hy (hs i hi hx)⟩
theorem Tch.then_ (h : Tch X w w') (k : Tch Y w' w'') (hs : ∀ i, i < w.heap.size → Y i → X i) : Tch X w w'' := ⟨k.os.trans h.os, k.tape.trans h.tape, k.output.trans h.output, Nat.le_trans h.size k.size, fun i hi hx => (k.block i (Nat.lt_of_lt_of_le hi h.size) fun hy => hx (hs i hi hy)).trans (h.block i hi hx)⟩
theorem Tch.of_below (h : Below w.heap.size w w') : Tch X w w' := ⟨h.os, h.tape, h.output, h.size, fun i hi _ => h.block i hi⟩
theorem Tch.call (h : Tch X w w') (k : Below w'.heap.size w' w'') : Tch X w w'' := h.trans (Tch.of_below k)
theorem Tch.alloc (h : Tch X w w') (o : Obj) : Tch X w (w'.alloc o) := h.call ((Below.refl _ _).alloc (Nat.le_refl _) _)
theorem Tch.drewN (h : Tch X w w') (n : Nat) : Tch X w (w'.drewN n) := h.call (below_drewN (Below.refl _ _) n)
theorem Tch.drew (h : Tch X w w') : Tch X w w'.drew := ⟨h.os, h.tape, h.output, h.size, h.block⟩
theorem Tch.setCell (h : Tch X w w') {p : Addr} (hp : X p.block ∨ w.heap.size ≤ p.block) (u : Value) : Tch X w (w'.setCell p u) :=
  ⟨h.os, h.tape, h.output, by simpa [World.setCell] using h.size, fun i hi hx => (Below.heap_setCell w' p u i (by rintro rfl; rcases hp with hp | hp; exact hx hp; omega)).trans (h.block i hi hx)⟩
theorem Tch.blk (h : Tch X w w') {q : Nat} {t : TypeId} {cs : Array Value} (hq : Blk w q t cs) (hx : ¬ X q) : Blk w' q t cs := (h.block q hq.lt hx).trans hq
theorem Tch.below {B : Nat} (h : Tch X w w') (hx : ∀ q, X q → B ≤ q) (hB : B ≤ w.heap.size) : Below B w w' := ⟨h.os, h.tape, h.output, h.size, fun i hi => h.block i (by omega) fun hxi => by have := hx i hxi; omega⟩
theorem Tch.own (h : Tch X w w') {base n size : Nat} {e : TypeId} {v : Value} {xs : List Value} (ho : w.ownsRow base e size v n xs) (hx : ∀ q, v.ownBlock = some q → ¬ X q) : w'.ownsRow base e size v n xs :=
  own_same ho fun q hq => h.block q (own_lt ho hq).2 (hx q hq)
theorem Tch.grown (h : Tch X w w') {row : Option Nat} (hg : w'.grownBy w'' row) (hx : ∀ q, row = some q → X q ∨ w.heap.size ≤ q) : Tch X w w'' :=
  ⟨hg.os.trans h.os, hg.tape.trans h.tape, hg.output.trans h.output, Nat.le_trans h.size hg.size, fun i hi hxi => (hg.block i (Nat.lt_of_lt_of_le hi h.size) (fun e => by rcases hx i e.symm with k | k; exact hxi k; omega)).trans (h.block i hi hxi)⟩
end

/-- A block of n cells, told by a function. -/
def RB (w : World) (g : Nat) (t : TypeId) (n : Nat) (f : Nat → Value) : Prop := Blk w g t ((List.range n).map f).toArray
section
variable {w w' : World} {g n : Nat} {t : TypeId} {f f' : Nat → Value}
theorem RB.lt (h : RB w g t n f) : g < w.heap.size := Blk.lt h
theorem RB.cell (h : RB w g t n f) {k : Nat} (hk : k < n) : w.cell? ⟨g, k, none⟩ = some (f k) := by
  rw [Blk.cell h k]
  simp [hk]
theorem RB.frozen (h : RB w g t n f) (k : Nat) : w.frozen? ⟨g, k, none⟩ = false := Blk.frozen h k
theorem RB.congr (h : RB w g t n f) (he : ∀ k, k < n → f k = f' k) : RB w g t n f' := by
  have e : (List.range n).map f = (List.range n).map f' := List.map_congr_left fun k hk => he k (List.mem_range.1 hk)
  unfold RB at h ⊢
  rwa [e] at h
theorem RB.set_ (h : RB w g t n f) (k : Nat) (u : Value) : RB (w.setCell ⟨g, k, none⟩ u) g t n (fun j => if j = k then u else f j) := by
  have h' := Blk.set_ h k u
  unfold RB
  have e : ((List.range n).map f).toArray.setIfInBounds k u = ((List.range n).map (fun j => if j = k then u else f j)).toArray := by
    rw [List.setIfInBounds_toArray]
    congr 1
    apply List.ext_getElem?
    intro i
    rw [List.getElem?_set, List.getElem?_map]
    by_cases hin : i < n
    · by_cases hik : k = i
      · subst hik; simp [hin]
      · rw [if_neg hik]
        have : ¬ i = k := fun e => hik e.symm
        simp [hin, this]
    · simp only [List.getElem?_map, List.length_map, List.length_range]
      have : (List.range n)[i]? = none := by rw [List.getElem?_eq_none]; simp; omega
      rw [this]
      by_cases hik : k = i
      · subst hik; simp [hin]
      · rw [if_neg hik]; rfl
  rwa [e] at h'
theorem RB.reads (h : RB w g t n f) : Reads w w.heap.size 1 (some ⟨g, 0, none⟩) n ((List.range n).map f) := Blk.reads h (by simp)
end
theorem RB.lay {w w' : World} {g n : Nat} {t : TypeId} {f : Nat → Value} (h : RB w g t n f) (hb : Below w.heap.size w w') : RB w' g t n f := Blk.below h hb h.lt
theorem RB.alloc {w : World} {g n : Nat} {t : TypeId} {f : Nat → Value} (h : RB w g t n f) (o : Obj) : RB (w.alloc o) g t n f := Blk.alloc h o
theorem Tch.cell {X : Nat → Prop} {w w' : World} (h : Tch X w w') {p : Addr} (hp : p.block < w.heap.size) (hx : ¬ X p.block) : w'.cell? p = w.cell? p := World.cell?_of_block (h.block _ hp hx)
theorem made_one (z : Value) (n : Nat) : madeCells #[z] n = ((List.range n).map fun _ => z).toArray := by
  have h := toList_madeCells_one z n
  apply Array.ext'
  rw [h]
  simp [List.map_const']

end Go.Proofs.Ytcggceincmljdaa

end

section
/- A number out of a list of numbers in memory. -/
namespace Go.Proofs.Ytcggceincmljdaa
open Go Go.RowKit

theorem ints_at {l : List Int} {q : Nat} {u : Value} (hu : (l.map (Value.int .i64))[q]? = some u) : ∃ z, l[q]? = some z ∧ .int .i64 z = u := by
  rw [List.getElem?_map] at hu
  cases h : l[q]? with
  | none => rw [h] at hu; cases hu
  | some t => rw [h] at hu; exact ⟨t, rfl, Option.some.inj hu⟩
theorem Reads.int_ {w : World} {B n : Nat} {A : Option Addr} {l : List Int} (h : Reads w B 1 A n (l.map (.int .i64))) {i : Nat} (hi : i < n) : ∃ b o z, A = some ⟨b, o, none⟩ ∧ b < B ∧ l[i]? = some z ∧ w.cell? ⟨b, o + i, none⟩ = some (.int .i64 z) := by
  obtain ⟨b, o, u, hA, hb, hu, hc⟩ := h.at_ hi
  obtain ⟨z, hz, rfl⟩ := ints_at hu
  exact ⟨b, o, z, hA, hb, hz, hc⟩
theorem Reads.ilen {w : World} {B n : Nat} {A : Option Addr} {l : List Int} (h : Reads w B 1 A n (l.map (.int .i64))) : l.length = n := by have := h.1; simpa using this

end Go.Proofs.Ytcggceincmljdaa

end

section
/- The rest and the mirror's part of turned maps. -/
namespace Go.Proofs.Ytcggceincmljdaa
open Go Go.RowKit

/-- The value of map a in cell i. -/
def matT (t : List TRow) (a i : Nat) : Int := ((t.getD a ⟨none, 0, 0, []⟩).xs).getD i 0
theorem matT_at {t : List TRow} {a i : Nat} {r : TRow} {z : Int} (hr : t[a]? = some r) (hz : r.xs[i]? = some z) : matT t a i = z := by
  unfold matT
  simp [List.getD_eq_getElem?_getD, hr, hz]
theorem TurnOk.mat {n k : Nat} {t : List TRow} (h : TurnOk n k t) : ∀ a i, a < k → i < n → -100000 ≤ matT t a i ∧ matT t a i ≤ 100000 := by
  intro a i ha hi
  have hr := List.getElem?_eq_getElem (show a < t.length by rw [h.len]; exact ha)
  obtain ⟨-, r2, r3⟩ := h.row _ (List.mem_of_getElem? hr)
  have hz := List.getElem?_eq_getElem (show i < (t[a]'(by rw [h.len]; exact ha)).xs.length by omega)
  rw [matT_at hr hz]
  exact r3 _ (List.mem_of_getElem? hz)
/-- Two lists of numbers of their own. -/
def SpAt (gp gm n : Nat) (R H : Nat → Int) (w : World) : Prop := RB w gp 3 n (fun v => .int .i64 (R v)) ∧ RB w gm 3 n (fun v => .int .i64 (H v))
section
variable {gp gm n : Nat} {R R' H H' : Nat → Int} {w w' : World}
theorem SpAt.below (h : SpAt gp gm n R H w) (hb : Below w.heap.size w w') : SpAt gp gm n R H w' := ⟨h.1.lay hb, h.2.lay hb⟩
theorem SpAt.congr (h : SpAt gp gm n R H w) (h1 : ∀ i, i < n → R i = R' i) (h2 : ∀ i, i < n → H i = H' i) : SpAt gp gm n R' H' w :=
  ⟨h.1.congr fun i hi => by rw [h1 i hi], h.2.congr fun i hi => by rw [h2 i hi]⟩
theorem SpAt.set1 (h : SpAt gp gm n R H w) (hne : gp ≠ gm) (q : Nat) (z : Int) : SpAt gp gm n (fun j => if j = q then z else R j) H (w.setCell ⟨gp, q, none⟩ (.int .i64 z)) :=
  ⟨(h.1.set_ q _).congr fun j _ => by by_cases e : j = q <;> simp [e], Blk.far h.2 (fun e => hne e.symm) _⟩
theorem SpAt.set2 (h : SpAt gp gm n R H w) (hne : gp ≠ gm) (q : Nat) (z : Int) : SpAt gp gm n R (fun j => if j = q then z else H j) (w.setCell ⟨gm, q, none⟩ (.int .i64 z)) :=
  ⟨Blk.far h.1 hne _, (h.2.set_ q _).congr fun j _ => by by_cases e : j = q <;> simp [e]⟩
theorem SpAt.drewN (h : SpAt gp gm n R H w) (k : Nat) : SpAt gp gm n R H (w.drewN k) := ⟨Blk.drewN h.1 k, Blk.drewN h.2 k⟩
end
/-- While map a is added to the rest. -/
def rsmF (M : Nat → Nat → Int) (a i j : Nat) : Int := if j < i then rstF M (a + 1) j else rstF M a j
theorem rsmF_start (M : Nat → Nat → Int) (a j : Nat) : rsmF M a 0 j = rstF M a j := by unfold rsmF; rw [if_neg (by omega)]
theorem rsmF_end (M : Nat → Nat → Int) {n a j : Nat} (hj : j < n) : rsmF M a n j = rstF M (a + 1) j := by unfold rsmF; rw [if_pos hj]
theorem rsmF_here (M : Nat → Nat → Int) (a i : Nat) : rsmF M a i i = rstF M a i := by unfold rsmF; rw [if_neg (by omega)]
theorem rsmF_step (M : Nat → Nat → Int) (a i j : Nat) : rsmF M a (i + 1) j = if j = i then rstF M a i + M a i else rsmF M a i j := by
  by_cases h : j = i
  · subst h; rw [if_pos rfl]; unfold rsmF; rw [if_pos (by omega)]; rfl
  · rw [if_neg h]; unfold rsmF
    by_cases h2 : j < i
    · rw [if_pos h2, if_pos (by omega)]
    · rw [if_neg h2, if_neg (by omega)]

/-- What split returns. -/
def SplitPost (n k : Nat) (t : List TRow) (w : World) (e : Ending) (w' : World) : Prop :=
  ∃ gp gm, e = .returned (.tuple #[.slice (some ⟨gp, 0, none⟩) n n, .slice (some ⟨gm, 0, none⟩) n n]) ∧ Below w.heap.size w w' ∧ SpAt gp gm n (rstF (matT t) k) (mirF (matT t) k n (n / k) k) w'
set_option maxRecDepth 100000 in
set_option maxHeartbeats 4000000 in
theorem split_is (A : Option Addr) (n k c : Nat) (t : List TRow) (hok : TurnOk n k t) (w : World) (hx : ReadsT w w.heap.size A k t) :
    Calls Try.prog 26 #[.agg #[.int .i64 n, .slice A k c]] w (SplitPost n k t w) := by
  have hn := hok.n1
  have hk := hok.k1
  have hmki : ∀ w : World, (Instr.makeSlice 22 (.int .i64 (n : Int)) (.int .i64 (n : Int))).run Try.prog w = .ok (.slice (some ⟨w.heap.size, 0, none⟩) n n) (w.alloc (.cells ((List.range n).map fun _ => Value.int .i64 0).toArray 3)) := fun w => by
    obtain ⟨i0, hi0, hz0, hz1, hz2⟩ := info_parts info_int
    have := run_make_rowN (P := Try.prog) 22 3 i0 _ Try.underlying22 hi0 hz0 .i64 .i64 n n (Nat.le_refl _) (by rw [hz2]; omega) (by omega) w
    rw [this, hz1, Nat.mul_one]
    rw [show (Value.int .i64 0).cells = #[.int .i64 0] from rfl, made_one]
  have HX := Lib.hid hx
  have HOK := Lib.hid hok
  have hMat := hok.mat
  have HM := Lib.hid hMat
  obtain ⟨M, hM⟩ : ∃ M, matT t = M := ⟨_, rfl⟩
  obtain ⟨s, hs⟩ : ∃ s, n / k = s := ⟨_, rfl⟩
  have hsk : k * s = n := by rw [← hs]; exact Nat.mul_div_cancel' (Nat.dvd_of_mod_eq_zero hok.div)
  have hsq : (n : Int).tdiv k = (s : Int) := by rw [Int.tdiv_eq_ediv_of_nonneg (by omega)]; rw [← hs]; exact (Int.natCast_ediv n k).symm
  have hk0 : ((k : Int) == 0) = false := by simp; omega
  have hn0 : ((n : Int) == 0) = false := by simp; omega
  have hsb : s ≤ 24 := by rw [← hs]; exact Nat.le_trans (Nat.div_le_self _ _) hn.2
  have hsw := IntWalk.i64_in (s : Int) ⟨by omega, by omega⟩
  have HMT := Lib.hid hM
  rw [hM] at hMat
  have HMI := Lib.hid hMat
  have HSK := Lib.hid hsk
  have HSS := Lib.hid hs
  clear hx hok hM hs hsk hMat
  go_enter Try.func26, Try.ntmps26
  go_wp2_with fail
  generalize hwn : (w.alloc (.cells #[.int .i64 ((n : Int)), .slice A k c] 45)) = w1
  have hbn : Below w.heap.size w w1 := by rw [← hwn]; repeat' (first | exact Below.refl _ _ | refine below_drewN ?_ _ | refine Below.drew ?_ | refine Below.alloc ?_ (by first | omega | (simp; done) | (simp; omega) | (simp [World.setCell]; omega)) _ | refine Below.setCell ?_ (by first | omega | (simp; done) | (simp; omega)) _)
  have HB1 := Lib.hid (show Below w.heap.size w w1 from hbn)
  have K0_1 := Lib.hid (show Blk w1 (w.heap.size) 45 #[.int .i64 ((n : Int)), .slice A k c] by rw [← hwn]; repeat' (first | exact Blk.at_ _ (by first | rfl | (simp; done) | (simp; omega)) _ _ | refine Blk.drewN ?_ _ | refine Blk.drew ?_ | refine Blk.alloc ?_ _ | refine Blk.far ?_ (by first | omega | (simp; done) | (simp; omega)) _ | assumption))
  have HN1 := Lib.hid hbn
  have hz1 := hbn.size
  clear hwn hbn
  have l0_1 : w.heap.size < w1.heap.size := K0_1.out.lt
  have z0_0_1 : w1.cell? ⟨w.heap.size, 0, none⟩ = some (.int .i64 ((n : Int))) := K0_1.out.cell 0
  have z0_1_1 : w1.cell? ⟨w.heap.size, 1, none⟩ = some (.slice A k c) := K0_1.out.cell 1
  go_quiet (fail)
  generalize hwn : (w1.drewN nq) = w2
  have hbn : Below w1.heap.size w1 w2 := by rw [← hwn]; repeat' (first | exact Below.refl _ _ | refine below_drewN ?_ _ | refine Below.drew ?_ | refine Below.alloc ?_ (by first | omega | (simp; done) | (simp; omega) | (simp [World.setCell]; omega)) _ | refine Below.setCell ?_ (by first | omega | (simp; done) | (simp; omega)) _)
  have HB2 := Lib.hid (show Below w.heap.size w w2 from HB1.out.trans (hbn.mono HB1.out.size))
  have K0_2 := Lib.hid (step_blk hbn K0_1.out)
  have HN2 := Lib.hid hbn
  have hz2 := hbn.size
  clear hwn hbn K0_1 l0_1 z0_0_1 z0_1_1
  have l0_2 : w.heap.size < w2.heap.size := K0_2.out.lt
  have z0_0_2 : w2.cell? ⟨w.heap.size, 0, none⟩ = some (.int .i64 ((n : Int))) := K0_2.out.cell 0
  have z0_1_2 : w2.cell? ⟨w.heap.size, 1, none⟩ = some (.slice A k c) := K0_2.out.cell 1
  have g0 := (HX.out.below HB2.out).more HB2.out.size
  have RT := Lib.hid g0
  have KM := K0_2
  have hw2 := HB2.out.size
  clear g0 HX
  go_upto_region 2 with fail
  go_cut [2, 3] from 20 to 24 (fun a b wx => ∃ gp gm, a = .slice (some ⟨gp, 0, none⟩) n n ∧ b = .slice (some ⟨gm, 0, none⟩) n n ∧ gp ≠ gm ∧ w2.heap.size ≤ gp ∧ w2.heap.size ≤ gm ∧ Below w2.heap.size w2 wx ∧ SpAt gp gm n (fun _ => 0) (fun _ => 0) wx)
  case first =>
    go_region
    · go_wp2_with fail
      go_meet
      exact ⟨_, _, rfl, rfl, by omega, by omega, by omega, by repeat' (first | exact Below.refl _ _ | refine below_drewN ?_ _ | refine Below.drew ?_ | refine Below.alloc ?_ (by first | omega | (simp; done) | (simp; omega) | (simp [World.setCell]; omega)) _ | refine Below.setCell ?_ (by first | omega | (simp; done) | (simp; omega)) _), ((Blk.at_ _ rfl _ _).alloc _).drew, (Blk.at_ _ (by simp) _ _).drew⟩
    · go_wp2_with fail
      go_meet
      exact ⟨_, _, rfl, rfl, by omega, by omega, by omega, by repeat' (first | exact Below.refl _ _ | refine below_drewN ?_ _ | refine Below.drew ?_ | refine Below.alloc ?_ (by first | omega | (simp; done) | (simp; omega) | (simp [World.setCell]; omega)) _ | refine Below.setCell ?_ (by first | omega | (simp; done) | (simp; omega)) _), (Blk.at_ _ (by simp) _ _).drew, ((Blk.at_ _ rfl _ _).alloc _).drew⟩
  case rest =>
  obtain ⟨gp, gm, rfl, rfl, hne, hgp, hgm, hb3, hc3⟩ := hcut
  obtain ⟨w3, hnm⟩ : ∃ z : World, z = wc := ⟨_, rfl⟩
  subst hnm
  have HB3 := Lib.hid hb3
  have HC3 := Lib.hid hc3
  have hk3 := KM.out.below hb3 KM.out.lt
  have y0 := hk3.cell 0
  have y1 := hk3.cell 1
  have hk3l := hk3.lt
  have HK3 := Lib.hid hk3
  clear hb3 hc3 hk3
  go_wp2
  go_loopw [27] (fun x wr => ∃ a : Nat, a ≤ k ∧ x = .int .i64 a ∧ Below w2.heap.size w2 wr ∧ w3.heap.size ≤ wr.heap.size ∧ Blk wr w.heap.size 45 #[.int .i64 n, .slice A k c] ∧ SpAt gp gm n (rstF M a) (fun _ => 0) wr) (fun x _ => k - (intOf x).toNat)
  case atStart => exact ⟨0, by omega, rfl, HB3.out, Nat.le_refl _, HK3.out, HC3.out.congr (fun i _ => rfl) (fun i _ => rfl)⟩
  case round =>
    obtain ⟨a, ha, rfl, hb4, hs4, hk4, hc4⟩ := hrel
    obtain ⟨w4, hnm⟩ : ∃ z : World, z = wr := ⟨_, rfl⟩
    subst hnm
    have HB4 := Lib.hid hb4
    have HC4 := Lib.hid hc4
    have HK4 := Lib.hid hk4
    have hb4s := hb4.size
    clear hb4 hc4 hk4 HB3 HC3 HK3 y0 y1
    by_cases hlt : a < k
    rotate_left
    · obtain rfl : k = a := by omega
      have y0 := HK4.out.cell 0
      have y1 := HK4.out.cell 1
      have hk4l := HK4.out.lt
      have HE := Lib.hid (show SpAt gp gm n (rstF M k) (mirF M k n s 0) w4 from HC4.out.congr (fun i _ => rfl) (fun i _ => rfl))
      clear HC4 HK4
      go_wp2
      go_loopw [50] (fun x wr => ∃ a : Nat, a ≤ k ∧ x = .int .i64 a ∧ Below w2.heap.size w2 wr ∧ w3.heap.size ≤ wr.heap.size ∧ SpAt gp gm n (rstF M k) (mirF M k n s a) wr) (fun x _ => k - (intOf x).toNat)
      case atStart => exact ⟨0, by omega, rfl, HB4.out, hs4, HE.out⟩
      case round =>
        clear HB4 HE hb4s hs4 y0 y1 hk4l
        obtain ⟨a, ha, rfl, hb6, hs6, hc6⟩ := hrel
        obtain ⟨w6, hnm⟩ : ∃ z : World, z = wr := ⟨_, rfl⟩
        subst hnm
        have HB6 := Lib.hid hb6
        have HC6 := Lib.hid hc6
        have hb6s := hb6.size
        clear hb6 hc6
        by_cases hlt2 : a < k
        rotate_left
        · obtain rfl : k = a := by omega
          go_wp2
          go_ret2
          exact ⟨gp, gm, rfl, HB2.out.trans (HB6.out.mono hw2), by rw [HMT.out, HSS.out]; exact HC6.out⟩
        have hak : (a : Int) < (k : Int) := by omega
        have ea := IntWalk.i64_in ((a : Int) + 1) ⟨by omega, by omega⟩
        obtain ⟨xb, xo, ⟨Ar, nr, cr, xr⟩, hAe, hxb, hr, c0, hrc, hrl, hrr⟩ := RT.out.at_ hlt2
        have c0 := (HB6.out.cell (p := ⟨xb, xo + a, none⟩) hxb).trans c0
        have hrow := HOK.out.row _ (List.mem_of_getElem? hr)
        simp only at c0 hrc hrl hrr hrow
        obtain ⟨rfl, hxl, hxz⟩ := hrow
        subst hAe
        have has : a * s ≤ nr := by rw [← HSK.out]; exact Nat.mul_le_mul_right s (by omega)
        have HAS := Lib.hid has
        have HR := Lib.hid hr
        have HRR := Lib.hid hrr
        have HXZ := Lib.hid hxz
        clear hr hrr hxz hrl has
        go_wp2
        go_loopw [57] (fun x wr => ∃ i : Nat, i ≤ nr ∧ x = .int .i64 i ∧ Below w2.heap.size w2 wr ∧ w3.heap.size ≤ wr.heap.size ∧ SpAt gp gm nr (rstF M k) (midF M k nr s a i) wr) (fun x _ => nr - (intOf x).toNat)
        case atStart => exact ⟨0, by omega, rfl, HB6.out, hs6, HC6.out.congr (fun i _ => rfl) (fun i _ => (midF_start M k nr s a i).symm)⟩
        case round =>
          obtain ⟨i, hi, rfl, hb7, hs7, hc7⟩ := hrel
          obtain ⟨w7, hnm⟩ : ∃ z : World, z = wr := ⟨_, rfl⟩
          subst hnm
          have HB7 := Lib.hid hb7
          have HC7 := Lib.hid hc7
          have hb7s := hb7.size
          clear hb7 hc7 HB6 HC6
          by_cases hlt3 : i < nr
          rotate_left
          · obtain rfl : nr = i := by omega
            have HE := Lib.hid (show SpAt gp gm nr (rstF M k) (mirF M k nr s (a + 1)) w7 from HC7.out.congr (fun j _ => rfl) (fun j _ => midF_end M k nr s a j (by omega)))
            go_wp2
            go_roundw
            case rel => exact ⟨a + 1, by omega, by go_num, HB7.out, hs7, HE.out⟩
            case measure => simp [intOf]; omega
          have hii : (i : Int) < (nr : Int) := by omega
          have ei := IntWalk.i64_in ((i : Int) + 1) ⟨by omega, by omega⟩
          obtain ⟨zb, zo, z, hBe, hzb, hzr, d0⟩ := (HRR.out.below HB7.out).int_ hlt3
          subst hBe
          have hzz := HXZ.out z (List.mem_of_getElem? hzr)
          have hmz := matT_at HR.out hzr
          rw [HMT.out] at hmz
          -- where it goes
          obtain ⟨v, hv⟩ : ∃ v, (i + nr - a * s) % nr = v := ⟨_, rfl⟩
          have hvn : v < nr := by rw [← hv]; exact Nat.mod_lt _ (by omega)
          obtain ⟨as', has'⟩ : ∃ as', a * s = as' := ⟨_, rfl⟩
          have hasn : as' ≤ nr := by rw [← has']; exact HAS.out
          have hasi : (a : Int) * (s : Int) = (as' : Int) := by rw [← has']; exact (Int.natCast_mul a s).symm
          obtain ⟨x1, hx1⟩ : ∃ x1 : Int, (i : Int) + (nr : Int) = x1 := ⟨_, rfl⟩
          obtain ⟨x2, hx2⟩ : ∃ x2 : Int, x1 - (as' : Int) = x2 := ⟨_, rfl⟩
          have g1 : IntKind.i64.wrap ((i : Int) + (nr : Int)) = x1 := by rw [hx1]; exact IntWalk.i64_in x1 ⟨by omega, by omega⟩
          have g2 : IntKind.i64.wrap ((a : Int) * (s : Int)) = (as' : Int) := by rw [hasi]; exact IntWalk.i64_in _ ⟨by omega, by omega⟩
          have g3 : IntKind.i64.wrap (x1 - (as' : Int)) = x2 := by rw [hx2]; exact IntWalk.i64_in x2 ⟨by omega, by omega⟩
          have g4 : x2.tmod (nr : Int) = (v : Int) := by
            rw [Int.tmod_eq_emod_of_nonneg (by omega), ← hv, has', show x2 = ((i + nr - as' : Nat) : Int) by omega]
            exact (Int.natCast_emod _ _).symm
          have g5 := IntWalk.i64_in (v : Int) ⟨by omega, by omega⟩
          -- what is added
          have hri := zrst_in hk.2 HMI.out (i := i) hlt3 (Nat.le_refl k)
          have hai := zadd_in hk.2 HMI.out hlt2 hlt3
          have hmi := zmid_in (s := s) hk.2 (show 0 < nr by omega) HMI.out hlt2 i v
          have q0 := HC7.out.1.cell hlt3
          have q1 := HC7.out.2.cell hvn
          have q2 := HC7.out.2.frozen v
          obtain ⟨R, hR⟩ : ∃ R, rstF M k i = R := ⟨_, rfl⟩
          obtain ⟨Y, hY⟩ : ∃ Y, midF M k nr s a i v = Y := ⟨_, rfl⟩
          rw [hR] at q0 hri
          rw [hY] at q1 hmi
          have haf : zaddF M k a i = (k : Int) * z - R := by unfold zaddF; rw [hmz, hR]
          rw [haf, hmz] at hai
          obtain ⟨kz, hkz⟩ : ∃ kz, (k : Int) * z = kz := ⟨_, rfl⟩
          rw [hkz] at hai haf
          obtain ⟨dd, hdd⟩ : ∃ dd, kz - R = dd := ⟨_, rfl⟩
          rw [hdd] at hai haf
          obtain ⟨Y2, hY2⟩ : ∃ Y2, Y + dd = Y2 := ⟨_, rfl⟩
          have f1 : IntKind.i64.wrap ((k : Int) * z) = kz := by rw [hkz]; exact IntWalk.i64_in kz ⟨by omega, by omega⟩
          have f2 : IntKind.i64.wrap (kz - R) = dd := by rw [hdd]; exact IntWalk.i64_in dd ⟨by omega, by omega⟩
          have f3 : IntKind.i64.wrap (Y + dd) = Y2 := by rw [hY2]; exact IntWalk.i64_in Y2 ⟨by omega, by omega⟩
          have HN : Hid (SpAt gp gm nr (rstF M k) (midF M k nr s a (i + 1)) ((w7.drewN 1).setCell ⟨gm, v, none⟩ (.int .i64 Y2))) := Lib.hid (((HC7.out.drewN 1).set2 hne v Y2).congr (fun j _ => rfl) (fun j hj => by
            rw [midF_step hlt3 hj HAS.out, hv, haf]
            by_cases e : j = v
            · subst e; rw [if_pos rfl, if_pos rfl, hY, hY2]
            · rw [if_neg e, if_neg e]))
          have HBN := Lib.hid ((below_drewN HB7.out 1).setCell (p := ⟨gm, v, none⟩) hgm (.int .i64 Y2))
          clear hzr hmz hR hY haf hkz hdd hY2 hx1 hx2 hv has' hasi hri hai hmi
          go_wp2_with fail
          obtain ⟨W0, hW0⟩ : ∃ W0, W0 = w7.drewN 1 := ⟨_, rfl⟩
          have m0 : W0.cell? ⟨gp, i, none⟩ = some (.int .i64 (R)) := by rw [hW0]; exact q0
          have mo : W0.cell? ⟨gm, v, none⟩ = some (.int .i64 (Y)) := by rw [hW0]; exact q1
          have mf : W0.frozen? ⟨gm, v, none⟩ = false := by rw [hW0]; exact q2
          refine Fx.region (fun f w' => (f 14 = false → w' = W0) ∧ (f 14 = true → w' = W0.setCell ⟨gm, v, none⟩ (.int .i64 (Y2)))) (by kernel_rfl) (by kernel_rfl) ?_ ?_
          · intro f hf0
            exact ⟨fun _ => hW0.symm, fun h => by rw [hf0 14] at h; cases h⟩
          have HW0 := Lib.hid hW0
          clear hW0
          repeat (first
            | (refine Fx.skip_ (by rfl) (fun f w h => h) ?_; simp only [Act.put, List.setIfInBounds_toArray, List.set_cons_zero, List.set_cons_succ])
            | (refine Fx.val_ ?_ (by rfl) ?_ (fun f w h => h) ?_
               rotate_left
               · intro f w' hD hk
                 obtain ⟨jw, jr⟩ := id hD
                 have jw := jw (hk.2.1 14 (by kernel_rfl))
                 have q0 : w'.cell? ⟨gp, i, none⟩ = some (.int .i64 (R)) := by rw [jw]; exact m0
                 have qo : w'.cell? ⟨gm, v, none⟩ = some (.int .i64 (Y)) := by rw [jw]; exact mo
                 clear hk hD jw jr
                 go_simp
                 try rfl
               simp only [Act.put, List.setIfInBounds_toArray, List.set_cons_zero, List.set_cons_succ]))
          refine Fx.store_ (fun w' => w'.setCell ⟨gm, v, none⟩ (.int .i64 (Y2))) (by rfl) ?_ ?_ ?_
          · intro f w' hD hk
            obtain ⟨jw, jr⟩ := id hD
            have jw := jw hk.1
            have q0 : w'.cell? ⟨gm, v, none⟩ = some (.int .i64 (Y)) := by rw [jw]; exact mo
            have q1 : w'.frozen? ⟨gm, v, none⟩ = false := by rw [jw]; exact mf
            clear hk hD jw jr
            go_simp
          · intro f w' hD hk
            obtain ⟨jw, jr⟩ := id hD
            have jw := jw hk.1
            exact ⟨fun h => by simp [Fx.add] at h, fun _ => by rw [jw]⟩
          simp only [Act.put, List.setIfInBounds_toArray, List.set_cons_zero, List.set_cons_succ]
          refine Fx.nil_ ?_
          intro f w8 hall hD
          have hwn := hD.2 (hall 14 (by simp))
          rw [HW0.out] at hwn
          clear hall hD HW0 mo mf m0
          go_wp2
          go_roundw
          case rel => exact ⟨i + 1, by omega, by go_num, HBN.out, by simpa [World.setCell, World.drewN] using hs7, HN.out⟩
          case measure => simp [intOf]; omega
    have hak : (a : Int) < (k : Int) := by omega
    have ea := IntWalk.i64_in ((a : Int) + 1) ⟨by omega, by omega⟩
    obtain ⟨xb, xo, ⟨Ar, nr, cr, xr⟩, hAe, hxb, hr, c0, hrc, hrl, hrr⟩ := RT.out.at_ hlt
    have c0 := (HB4.out.cell (p := ⟨xb, xo + a, none⟩) hxb).trans c0
    have hrow := HOK.out.row _ (List.mem_of_getElem? hr)
    simp only at c0 hrc hrl hrr hrow
    obtain ⟨rfl, hxl, hxz⟩ := hrow
    subst hAe
    have HR := Lib.hid hr
    have HRR := Lib.hid hrr
    have HXZ := Lib.hid hxz
    clear hr hrr hxz hrl
    go_wp2
    go_loopw [33] (fun x wr => ∃ i : Nat, i ≤ nr ∧ x = .int .i64 i ∧ Below w2.heap.size w2 wr ∧ w3.heap.size ≤ wr.heap.size ∧ Blk wr w.heap.size 45 #[.int .i64 nr, .slice (some ⟨xb, xo, none⟩) k c] ∧ SpAt gp gm nr (rsmF M a i) (fun _ => 0) wr) (fun x _ => nr - (intOf x).toNat)
    case atStart => exact ⟨0, by omega, rfl, HB4.out, hs4, HK4.out, HC4.out.congr (fun i _ => (rsmF_start M a i).symm) (fun i _ => rfl)⟩
    case round =>
      obtain ⟨i, hi, rfl, hb5, hs5, hk5, hc5⟩ := hrel
      obtain ⟨w5, hnm⟩ : ∃ z : World, z = wr := ⟨_, rfl⟩
      subst hnm
      have HB5 := Lib.hid hb5
      have HC5 := Lib.hid hc5
      have HK5 := Lib.hid hk5
      have hb5s := hb5.size
      clear hb5 hc5 hk5 HB4 HC4 HK4
      by_cases hlt2 : i < nr
      rotate_left
      · obtain rfl : nr = i := by omega
        have HE := Lib.hid (show SpAt gp gm nr (rstF M (a + 1)) (fun _ => 0) w5 from HC5.out.congr (fun j hj => rsmF_end M hj) (fun j _ => rfl))
        go_wp2
        go_roundw
        case rel => exact ⟨a + 1, by omega, by go_num, HB5.out, hs5, HK5.out, HE.out⟩
        case measure => simp [intOf]; omega
      have hii : (i : Int) < (nr : Int) := by omega
      have ei := IntWalk.i64_in ((i : Int) + 1) ⟨by omega, by omega⟩
      obtain ⟨zb, zo, z, hBe, hzb, hzr, d0⟩ := (HRR.out.below HB5.out).int_ hlt2
      subst hBe
      have hzz := HXZ.out z (List.mem_of_getElem? hzr)
      have hmz := matT_at HR.out hzr
      rw [HMT.out] at hmz
      have hri := zrst_in hk.2 HMI.out (i := i) hlt2 (q := a) (by omega)
      have q0 := HC5.out.1.cell hlt2
      have q1 := HC5.out.1.frozen i
      rw [rsmF_here] at q0
      obtain ⟨R, hR⟩ : ∃ R, rstF M a i = R := ⟨_, rfl⟩
      rw [hR] at q0 hri
      obtain ⟨v, hv⟩ : ∃ v, R + z = v := ⟨_, rfl⟩
      have ev : IntKind.i64.wrap (R + z) = v := by rw [hv]; exact IntWalk.i64_in v ⟨by omega, by omega⟩
      have HN : Hid (SpAt gp gm nr (rsmF M a (i + 1)) (fun _ => 0) (w5.setCell ⟨gp, i, none⟩ (.int .i64 v))) := Lib.hid ((HC5.out.set1 hne i v).congr (fun j _ => by rw [rsmF_step, hR, hmz, hv]) (fun j _ => rfl))
      have HKN : Hid (Blk (w5.setCell ⟨gp, i, none⟩ (.int .i64 v)) w.heap.size 45 #[.int .i64 nr, .slice (some ⟨xb, xo, none⟩) k c]) := Lib.hid (Blk.far HK5.out (show w.heap.size ≠ gp by have := KM.out.lt; omega) _)
      have HBN := Lib.hid (HB5.out.setCell (p := ⟨gp, i, none⟩) hgp (.int .i64 v))
      clear hzr hmz hri hR hv
      go_wp2
      go_roundw
      case rel => exact ⟨i + 1, by omega, by go_num, HBN.out, by simpa [World.setCell] using hs5, HKN.out, HN.out⟩
      case measure => simp [intOf]; omega
end Go.Proofs.Ytcggceincmljdaa

end
