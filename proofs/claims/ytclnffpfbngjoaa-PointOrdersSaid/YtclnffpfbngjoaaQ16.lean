import Derived.Test.YtclnffpfbngjoaaQ2
import Derived.Test.YtclnffpfbngjoaaQ15

section
/- A number out of a list of numbers in memory. -/
namespace Go.Proofs.Ytclnffpfbngjoaa
open Go Go.RowKit

theorem ints_at {l : List Int} {q : Nat} {u : Value} (hu : (l.map (Value.int .i64))[q]? = some u) : ∃ z, l[q]? = some z ∧ .int .i64 z = u := by
  rw [List.getElem?_map] at hu
  cases h : l[q]? with
  | none => rw [h] at hu; cases hu
  | some t => rw [h] at hu; exact ⟨t, rfl, Option.some.inj hu⟩
theorem Reads.int_ {w : World} {B n : Nat} {A : Option Addr} {l : List Int} (h : Reads w B 1 A n (l.map (.int .i64))) {i : Nat} (hi : i < n) : ∃ b o z, A = some ⟨b, o, none⟩ ∧ b < B ∧ l[i]? = some z ∧ w.cell? ⟨b, o + i, none⟩ = some (.int .i64 z) := by
  obtain ⟨b, o, u, hA, hb, hu, hc⟩ := h.at_ hi
  obtain ⟨z, hz, rfl⟩ := ints_at hu
  exact ⟨b, o, z, hA, hb, hz, hc⟩
theorem Reads.ilen {w : World} {B n : Nat} {A : Option Addr} {l : List Int} (h : Reads w B 1 A n (l.map (.int .i64))) : l.length = n := by have := h.1; simpa using this

end Go.Proofs.Ytclnffpfbngjoaa

end

section
/- Contracts of the path of a choice and of its cost. -/
namespace Go.Proofs.Ytclnffpfbngjoaa
open Go Go.RowKit

set_option maxRecDepth 100000 in
theorem pindex_no (A : Option Addr) (n c N : Nat) (l : List Int) (z : Int) (hz : z ∉ l) (w : World) (hx : Reads w N 1 A n (l.map (.int .i64))) (hn : n ≤ 9223372036854775807) :
    Calls Try.prog 50 #[.slice A n c, .int .i64 z] w fun e w' => e = .returned (.int .i64 (-1)) ∧ w = w' := by
  have HX := Lib.hid hx
  have HZ := Lib.hid hz
  clear hx hz
  go_enter Try.func50, Try.ntmps50
  go_wp2
  go_loop [8] (fun i => ∃ q : Nat, q ≤ n ∧ i = .int .i64 q) (fun i => n - (intOf i).toNat)
  case atStart => exact ⟨0, by omega, rfl⟩
  case round =>
    obtain ⟨q, hq, rfl⟩ := hrel
    by_cases hlt : q < n
    · obtain ⟨xb, xo, x, rfl, hxb, hx, c0⟩ := HX.out.int_ hlt
      have hne : (z == x) = false := by
        rw [beq_eq_false_iff_ne]
        rintro rfl
        exact HZ.out (List.mem_of_getElem? hx)
      clear hx
      go_wp2
      go_round
      case rel => exact ⟨q + 1, by omega, by go_num⟩
      case measure => simp [intOf]; omega
    · go_wp2
      go_ret
      exact ⟨rfl, rfl⟩
def IdxYes (l : List Int) (z : Int) (w : World) (e : Ending) (w' : World) : Prop := (∃ i : Nat, e = .returned (.int .i64 i) ∧ l[i]? = some z) ∧ w = w'
set_option maxRecDepth 100000 in
theorem pindex_yes (A : Option Addr) (n c N : Nat) (l : List Int) (z : Int) (hz : z ∈ l) (w : World) (hx : Reads w N 1 A n (l.map (.int .i64))) (hn : n ≤ 9223372036854775807) :
    Calls Try.prog 50 #[.slice A n c, .int .i64 z] w (IdxYes l z w) := by
  have hl := hx.ilen
  have HL := Lib.hid hl
  have HX := Lib.hid hx
  have HZ := Lib.hid hz
  clear hx hz hl
  go_enter Try.func50, Try.ntmps50
  go_wp2
  go_loop [8] (fun i => ∃ q : Nat, q ≤ n ∧ i = .int .i64 q ∧ ∀ j x, j < q → l[j]? = some x → x ≠ z) (fun i => n - (intOf i).toNat)
  case atStart => exact ⟨0, by omega, rfl, fun j x hj => absurd hj (by omega)⟩
  case round =>
    obtain ⟨q, hq, rfl, hpre⟩ := hrel
    have HPRE := Lib.hid hpre
    clear hpre
    by_cases hlt : q < n
    · obtain ⟨xb, xo, x, rfl, hxb, hx, c0⟩ := HX.out.int_ hlt
      have HXQ := Lib.hid hx
      clear hx
      by_cases he : z = x
      · subst he
        go_wp2
        go_ret
        exact (show IdxYes l z _ _ _ from ⟨⟨q, rfl, HXQ.out⟩, rfl⟩)
      · have hne : (z == x) = false := by rw [beq_eq_false_iff_ne]; exact he
        go_wp2
        go_round
        case rel =>
          refine ⟨q + 1, by omega, by go_num, fun j y hj hy => ?_⟩
          rcases Nat.lt_or_ge j q with h | h
          · exact HPRE.out j y h hy
          · obtain rfl : j = q := by omega
            rw [HXQ.out] at hy
            cases hy
            exact fun e => he e.symm
        case measure => simp [intOf]; omega
    · exfalso
      obtain ⟨j, hj⟩ := List.getElem?_of_mem HZ.out
      have hjl := (List.getElem?_eq_some_iff.1 hj).1
      rw [HL.out] at hjl
      exact HPRE.out j z (by omega) hj rfl

theorem Reads.slen {w : World} {B n : Nat} {A : Option Addr} {l : List Stp} (h : Reads w B 8 A n (stpCells l)) : l.length = n := by
  have := h.1; rw [stpCells_length] at this; omega
theorem Reads.stp {w : World} {B n : Nat} {A : Option Addr} {l : List Stp} (h : Reads w B 8 A n (stpCells l)) {i : Nat} (hi : i < n) :
    ∃ b o s, A = some ⟨b, o, none⟩ ∧ b < B ∧ l[i]? = some s ∧ w.cell? ⟨b, o + i * 8 + 6, none⟩ = some (.slice s.A s.n s.c) ∧ w.cell? ⟨b, o + i * 8 + 7, none⟩ = some (.slice s.A' s.n s.c') ∧ ∀ j u, j < 8 → s.cells[j]? = some u → w.cell? ⟨b, o + i * 8 + j, none⟩ = some u := by
  obtain ⟨b, o, e, hb, hc⟩ := h.2 (by omega)
  have hl := h.slen
  have hil : i < l.length := by omega
  have g : ∀ j u, j < 8 → (l[i]).cells[j]? = some u → w.cell? ⟨b, o + i * 8 + j, none⟩ = some u := fun j u hj hu => by
    rw [Nat.add_assoc]; exact hc _ u (by rw [stpCells_get l i hil j hj, hu])
  exact ⟨b, o, l[i], e, hb, List.getElem?_eq_getElem hil, g 6 _ (by omega) rfl, g 7 _ (by omega) rfl, g⟩

/-- The position of a target by a turn. -/
def posK (m : Mnt) (day : Int) (t : Tgt) (k : Int) : Int := (appF m t day).1 + k * 1296000
def turnOk (m : Mnt) (day : Int) (t : Tgt) (k : Int) : Bool := decide (k ∈ turnsV m day t)
def pathL (m : Mnt) (day : Int) : List Tgt → List Int → List Int := List.zipWith (posK m day)
def pathOk (m : Mnt) (day : Int) (l : List Tgt) (ks : List Int) : Bool := (List.zipWith (turnOk m day) l ks).all id
/-- The error of a choice. -/
def pathErr (m : Mnt) (day : Int) (l : List Tgt) (ks : List Int) : Int := if ks.length ≠ l.length then 10 else if pathOk m day l ks = false then 6 else 0
theorem path_bad {m : Mnt} {day : Int} {l : List Tgt} {ks : List Int} {i : Nat} {t : Tgt} {k : Int} (ht : l[i]? = some t) (hk : ks[i]? = some k) (h : turnOk m day t k = false) : pathOk m day l ks = false := by
  unfold pathOk
  rw [List.all_eq_false]
  refine ⟨false, ?_, by simp⟩
  have : (List.zipWith (turnOk m day) l ks)[i]? = some false := by rw [List.getElem?_zipWith, ht, hk]; simp [h]
  exact List.mem_of_getElem? this
theorem path_good {m : Mnt} {day : Int} {l : List Tgt} {ks : List Int} (h : ∀ (i : Nat) t k, l[i]? = some t → ks[i]? = some k → turnOk m day t k = true) : pathOk m day l ks = true := by
  unfold pathOk
  rw [List.all_eq_true]
  intro b hb
  obtain ⟨i, hi⟩ := List.getElem?_of_mem hb
  rw [List.getElem?_zipWith] at hi
  cases ht : l[i]? with
  | none => rw [ht] at hi; cases hi
  | some t =>
    cases hk : ks[i]? with
    | none => rw [ht, hk] at hi; cases hi
    | some k =>
      rw [ht, hk] at hi
      have := h i t k ht hk
      cases hi
      simpa using this
theorem path_at {m : Mnt} {day : Int} {l : List Tgt} {ks : List Int} {i : Nat} {t : Tgt} {k : Int} (hp : pathOk m day l ks = true) (ht : l[i]? = some t) (hk : ks[i]? = some k) : turnOk m day t k = true := by
  cases h : turnOk m day t k with
  | true => rfl
  | false => rw [path_bad ht hk h] at hp; cases hp
theorem pathL_snoc {m : Mnt} {day : Int} {l : List Tgt} {ks : List Int} {i : Nat} {t : Tgt} {k : Int} (ht : l[i]? = some t) (hk : ks[i]? = some k) : (pathL m day l ks).take (i + 1) = (pathL m day l ks).take i ++ [posK m day t k] := by
  have : (pathL m day l ks)[i]? = some (posK m day t k) := by unfold pathL; rw [List.getElem?_zipWith, ht, hk]
  rw [List.take_add_one, this]; rfl
theorem pathL_len {m : Mnt} {day : Int} {l : List Tgt} {ks : List Int} (h : ks.length = l.length) : (pathL m day l ks).length = l.length := by unfold pathL; rw [List.length_zipWith, h]; omega
theorem posL_get {X k : Int} {L : List Int} {i : Nat} (h : L[i]? = some k) : (posL X L)[i]? = some (X + k * 1296000) := by unfold posL; rw [List.getElem?_map, h]; rfl

def PathOk (P : List Int) (n : Nat) (w : World) (e : Ending) (w' : World) : Prop :=
  ∃ A c, e = .returned (.tuple #[.slice A n c, .int .i64 0]) ∧ Below w.heap.size w w' ∧ Reads w' w'.heap.size 1 A n (P.map (.int .i64))
theorem PathOk.mk' {P : List Int} {n : Nat} {w w' : World} {e : Ending} {A : Option Addr} {c : Nat} (h1 : e = .returned (.tuple #[.slice A n c, .int .i64 0])) (h2 : Below w.heap.size w w') (h3 : Reads w' w'.heap.size 1 A n (P.map (.int .i64))) : PathOk P n w e w' := ⟨A, c, h1, h2, h3⟩
def PathFit (E : Int) (P : List Int) (n : Nat) (w : World) (e : Ending) (w' : World) : Prop :=
  (E ≠ 0 → e = .returned (.tuple #[.slice none 0 0, .int .i64 E]) ∧ Below w.heap.size w w') ∧ (E = 0 → PathOk P n w e w')

set_option maxRecDepth 100000 in
set_option maxHeartbeats 4000000 in
theorem ppath_any (m : Mnt) (day pos : Int) (l : List Tgt) (tb : Nat) (A : Option Addr) (c : Nat) (S : List Stp) (At : Option Addr) (nt ct : Nat) (ks : List Int) (w : World) (hT : TourAt m day pos l tb A c S w) (hk : Reads w w.heap.size 1 At nt (ks.map (.int .i64))) (hn : nt ≤ ct ∧ ct ≤ 9223372036854775807) (hl : l.length ≤ 20) (E : Int) (hE : pathErr m day l ks = E) (n : Nat) (hln : l.length = n) :
    Calls Try.prog 35 #[.pointer (some ⟨tb, 0, none⟩), .slice At nt ct] w (PathFit E (pathL m day l ks) n w) := by
  obtain ⟨hn, hc⟩ := hn
  have hkl := hk.ilen
  have hblk := hT.blk
  rw [hln] at hblk hl
  have HT := Lib.hid hT
  have HK := Lib.hid hk
  have HKL := Lib.hid hkl
  have HE := Lib.hid hE
  have HLN := Lib.hid hln
  have htb := hblk.lt
  clear hT hk hkl hE hln
  by_cases hsh : nt = n
  rotate_left
  · have he : E = 10 := by rw [← HE.out]; unfold pathErr; rw [if_pos (by rw [HKL.out, HLN.out]; exact hsh)]
    subst he
    have hne : ((nt : Int) != (n : Int)) = true := by rw [bne_iff_ne]; omega
    have z1 := hblk.cell 1
    clear hblk
    go_enter Try.func35, Try.ntmps35
    go_wp2
    go_ret2
    exact (show PathFit _ _ _ _ _ _ from ⟨fun _ => ⟨rfl, Below.refl _ _⟩, fun h => by cases h⟩)
  subst hsh
  have heq : ((nt : Int) != (nt : Int)) = false := by simp
  have HB := Lib.hid hblk
  have z1 := hblk.cell 1
  simp only [List.getElem?_toArray, List.getElem?_cons_succ, List.getElem?_cons_zero] at z1
  obtain ⟨i0, hi0, hz0, hz1, hz2⟩ := info_parts info_ints1
  have HI0 := Lib.hid hi0
  have HZ0 := Lib.hid hz0
  have HZ1 := Lib.hid hz1
  have HZ2 := Lib.hid hz2
  clear hblk hi0 hz0 hz1 hz2
  go_enter Try.func35, Try.ntmps35
  go_wp2
  go_loopw [6, 20] (fun v i wr => ∃ k : Nat, k ≤ nt ∧ i = .int .i64 k ∧ Below w.heap.size w wr ∧ wr.ownsRow w.heap.size 3 1 v k (((pathL m day l ks).take k).map (.int .i64)) ∧ ∀ (j : Nat) t q, j < k → l[j]? = some t → ks[j]? = some q → turnOk m day t q = true) (fun _ i _ => nt - (intOf i).toNat)
  case atStart => exact ⟨0, by omega, rfl, Below.refl _ _, World.ownsRow_nil _ _ _ _, fun j t q hj => absurd hj (by omega)⟩
  case round =>
    obtain ⟨k, hkn, rfl, hb, ho, hpre⟩ := hrel
    obtain ⟨w1, hnm⟩ : ∃ z : World, z = wr := ⟨_, rfl⟩
    subst hnm
    have HBW := Lib.hid hb
    have HO := Lib.hid ho
    have HPRE := Lib.hid hpre
    have hbs := hb.size
    clear hb ho hpre
    by_cases hlt : k < nt
    rotate_left
    · have hkn : k = nt := by omega
      subst hkn
      have hall : pathOk m day l ks = true := path_good fun i t q ht hq => HPRE.out i t q (by have := (List.getElem?_eq_some_iff.1 ht).1; rw [HLN.out] at this; exact this) ht hq
      have he : E = 0 := by rw [← HE.out]; unfold pathErr; rw [if_neg (by rw [HKL.out, HLN.out]; simp), if_neg (by rw [hall]; simp)]
      subst he
      obtain ⟨A9, c9, rfl, hr9⟩ := own_reads HO.out
      rw [List.take_of_length_le (by rw [pathL_len (by rw [HKL.out, HLN.out]), HLN.out]; omega)] at hr9
      have HR9 := Lib.hid hr9
      clear hall hr9
      go_wp2
      go_ret2
      exact (show PathFit _ _ _ _ _ _ from ⟨fun h => absurd rfl h, fun _ => PathOk.mk' rfl HBW.out HR9.out⟩)
    have hT1 := HT.out.lay HBW.out
    obtain ⟨yb, yo, q, rfl, hyb, hq, d0⟩ := ((HK.out.below HBW.out).more hbs).int_ hlt
    have hrow := hT1.row
    rw [HLN.out] at hrow
    obtain ⟨xb, xo, s, rfl, hxb, hs, c6, c7, -⟩ := hrow.stp hlt
    have hok := hT1.ok s (List.mem_of_getElem? hs)
    have hst : l[k]? = some s.t := by rw [← HT.out.ts, List.getElem?_map, hs]; rfl
    have f1 := (HBW.out.cell (p := ⟨tb, 1, none⟩) htb).trans z1
    have hsn : s.n ≤ 43 := by
      have h1 := hok.1.ilen
      have h2 : (turnsV m day s.t).length ≤ 43 := by
        unfold turnsV turnsF turnsAt
        split
        · simp
        · split
          · simp
          · exact turnsTo_len _ _ _ _
      omega
    have HOK1 := Lib.hid hok.1
    have HOK2 := Lib.hid hok.2
    have HST := Lib.hid hst
    have HQ := Lib.hid hq
    clear hT1 hrow hs hok hst hq
    by_cases hmem : q ∈ turnsV m day s.t
    · have hyes : turnOk m day s.t q = true := by unfold turnOk; exact decide_eq_true hmem
      have HY := Lib.hid hyes
      clear hyes
      go_wp2_with fail
      refine (pindex_yes s.A s.n s.c _ (turnsV m day s.t) q hmem _ HOK1.out (by omega)).mono ?_
      rintro e w' ⟨⟨i, rfl, hi⟩, rfl⟩
      have hin : i < s.n := by
        have := (List.getElem?_eq_some_iff.1 hi).1
        rw [HOK1.out.ilen] at this; exact this
      obtain ⟨pb, po, z, hA', hpb, hz, e0⟩ := HOK2.out.int_ hin
      have hzz : z = posK m day s.t q := by
        have := posL_get (X := (appF m s.t day).1) hi
        unfold posV at hz
        rw [hz] at this
        exact Option.some.inj this
      rw [hzz] at e0
      rw [hA'] at c7
      have hi0 : ¬ (i : Int) < 0 := by omega
      obtain ⟨W, hW⟩ : ∃ W, W = w1.alloc (.cells #[.int .i64 (posK m day s.t q)] 3) := ⟨_, rfl⟩
      have hoW : W.ownsRow w.heap.size 3 1 u6 k (((pathL m day l ks).take k).map (.int .i64)) := by rw [hW]; exact HO.out.alloc _
      have hnb : Blk W w1.heap.size 3 #[.int .i64 (posK m day s.t q)] := by rw [hW]; exact Blk.new _ _ _
      have hbW : Below w.heap.size w W := by rw [hW]; exact HBW.out.alloc hbs _
      obtain ⟨v', W2, hrun, o2', hg2, hrow⟩ := run_append_any (P := Try.prog) W w.heap.size 31 31 3 i0 _ 1 8 Try.underlying31 HI0.out HZ0.out HZ1.out HZ2.out rfl (by omega) u6 k _ hoW W.heap.size (some ⟨w1.heap.size, 0, none⟩) 1 1 [.int .i64 (posK m day s.t q)] (Blk.reads hnb rfl) (by simp [Value.oneCell']) (by unfold maxLen; omega) (by omega) hbW.size
      have hb2 := Lib.hid (hbW.grown hg2 hbW.size (fun g hg => (own_lt hoW hg).1))
      rw [hW] at hrun
      have HRUN := Lib.hid hrun
      have HO2 := Lib.hid o2'
      have HII := Lib.hid hi
      clear hrun hg2 hrow hnb hoW hW hbW o2' hi hz hzz
      go_wp2_with (first | (at_builtin; refine wpList_app _ W2 v' rfl _ _ _ rfl _ _ rfl rfl HRUN.out ?_))
      go_roundw
      case rel =>
        refine ⟨k + 1, by omega, by go_num, hb2.out, by rw [pathL_snoc HST.out HQ.out, List.map_append]; exact HO2.out, fun j t q' hj ht hq' => ?_⟩
        rcases Nat.lt_or_ge j k with h | h
        · exact HPRE.out j t q' h ht hq'
        · obtain rfl : j = k := by omega
          rw [HST.out] at ht
          rw [HQ.out] at hq'
          cases ht; cases hq'
          exact HY.out
      case measure => simp [intOf]; omega
    · have hno : turnOk m day s.t q = false := by unfold turnOk; exact decide_eq_false hmem
      have he : E = 6 := by rw [← HE.out]; unfold pathErr; rw [if_neg (by rw [HKL.out, HLN.out]; simp), if_pos (path_bad HST.out HQ.out hno)]
      subst he
      clear hno
      go_wp2_with fail
      refine (pindex_no s.A s.n s.c _ (turnsV m day s.t) q hmem _ HOK1.out (by omega)).mono ?_
      rintro e w' ⟨rfl, rfl⟩
      go_wp2
      go_ret2
      exact (show PathFit _ _ _ _ _ _ from ⟨fun _ => ⟨rfl, HBW.out⟩, fun h => by cases h⟩)

end Go.Proofs.Ytclnffpfbngjoaa

end

section
/- Stars in memory; the contract of their check. -/
namespace Go.Proofs.Ytclnffpfbngjoaa
open Go Go.RowKit

/-- A star in memory. -/
structure Star where
  A : Option Addr
  n : Nat
  c : Nat
  xs : List Int
  er : Int
def Star.cells (s : Star) : List Value := [.slice s.A s.n s.c, .int .i64 s.er]
def starCells (l : List Star) : List Value := l.flatMap Star.cells
theorem starCells_length (l : List Star) : (starCells l).length = l.length * 2 := by
  unfold starCells
  induction l with
  | nil => rfl
  | cons t l ih => rw [List.flatMap_cons, List.length_append, ih, List.length_cons]; simp [Star.cells]; omega
theorem starCells_get (l : List Star) : ∀ (i : Nat) (h : i < l.length) (j : Nat), j < 2 → (starCells l)[i * 2 + j]? = (l[i]).cells[j]? := by
  unfold starCells
  induction l with
  | nil => intro i h; exact absurd h (by simp)
  | cons t l ih =>
    intro i h j hj
    rw [List.flatMap_cons]
    have ht : t.cells.length = 2 := rfl
    cases i with
    | zero => rw [Nat.zero_mul, Nat.zero_add, List.getElem?_append_left (by omega)]; rfl
    | succ i =>
      rw [List.getElem?_append_right (by omega), ht, show (i + 1) * 2 + j - 2 = i * 2 + j by omega]
      exact ih i (by simpa using h) j hj
structure StarsAt (l : List Star) (A : Option Addr) (n : Nat) (w : World) : Prop where
  row : Reads w w.heap.size 2 A n (starCells l)
  each : ∀ s ∈ l, (s.n ≤ s.c ∧ s.c ≤ 9223372036854775807) ∧ Reads w w.heap.size 1 s.A s.n (s.xs.map (.int .i64))
theorem StarsAt.lay {l : List Star} {A : Option Addr} {n : Nat} {w w' : World} (h : StarsAt l A n w) (hb : Below w.heap.size w w') : StarsAt l A n w' :=
  ⟨(h.row.below hb).more hb.size, fun s hs => ⟨(h.each s hs).1, ((h.each s hs).2.below hb).more hb.size⟩⟩
theorem StarsAt.len {l : List Star} {A : Option Addr} {n : Nat} {w : World} (h : StarsAt l A n w) : l.length = n := by have := h.row.1; rw [starCells_length] at this; omega
theorem StarsAt.at_ {l : List Star} {A : Option Addr} {n : Nat} {w : World} (h : StarsAt l A n w) {i : Nat} (hi : i < n) :
    ∃ b o s, A = some ⟨b, o, none⟩ ∧ b < w.heap.size ∧ l[i]? = some s ∧ w.cell? ⟨b, o + i * 2, none⟩ = some (.slice s.A s.n s.c) ∧ w.cell? ⟨b, o + i * 2 + 1, none⟩ = some (.int .i64 s.er) ∧ (s.n ≤ s.c ∧ s.c ≤ 9223372036854775807) ∧ s.xs.length = s.n ∧ Reads w w.heap.size 1 s.A s.n (s.xs.map (.int .i64)) := by
  obtain ⟨b, o, e, hb, hc⟩ := h.row.2 (by omega)
  have hl := h.len
  have hil : i < l.length := by omega
  have g : ∀ j u, j < 2 → (l[i]).cells[j]? = some u → w.cell? ⟨b, o + i * 2 + j, none⟩ = some u := fun j u hj hu => by
    rw [Nat.add_assoc]; exact hc _ u (by rw [starCells_get l i hil j hj, hu])
  obtain ⟨e1, e2⟩ := h.each _ (List.getElem_mem hil)
  exact ⟨b, o, l[i], e, hb, List.getElem?_eq_getElem hil, g 0 _ (by omega) rfl, g 1 _ (by omega) rfl, e1, e2.ilen, e2⟩

/-- The number of terms of the first star. -/
def termsN (l : List Star) : Nat := ((l[0]?).map fun s => s.xs.length).getD 0
def starErr (n : Nat) (s : Star) : Int := if s.xs.length ≠ n ∨ withinB (n : Int) 1 3 = false then 10 else if smallL 100 s.xs = false ∨ smallL 1000 [s.er] = false then 2 else 0
/-- The number of terms, and the error. -/
def starsF (l : List Star) : Int × Int :=
  if l.length = 0 then (0, 10) else if 20 < l.length then (0, 8) else if (firstStep (fun _ s => starErr (termsN l) s) 0 l).2 ≠ 0 then (0, (firstStep (fun _ s => starErr (termsN l) s) 0 l).2) else ((termsN l : Int), 0)
theorem stars_stop {l : List Star} {k : Nat} {s : Star} {E : Int} (h0 : l.length ≠ 0) (h20 : ¬ 20 < l.length) (hp : ∀ j t, j < k → l[j]? = some t → starErr (termsN l) t = 0) (hs : l[k]? = some s) (he : starErr (termsN l) s = E) (hE : E ≠ 0) : starsF l = (0, E) := by
  have h := firstStep_stop (f := fun _ s => starErr (termsN l) s) hp hs (by rw [he]; exact hE)
  unfold starsF
  rw [if_neg h0, if_neg h20, h, he, if_pos hE]
theorem stars_all {l : List Star} (h0 : l.length ≠ 0) (h20 : ¬ 20 < l.length) (hp : ∀ j t, j < l.length → l[j]? = some t → starErr (termsN l) t = 0) : starsF l = ((termsN l : Int), 0) := by
  have h := firstStep_all (f := fun _ s => starErr (termsN l) s) hp
  unfold starsF
  rw [if_neg h0, if_neg h20, h, if_neg (by simp)]
theorem stars_right {l : List Star} {n E : Int} (h : starsF l = (n, E)) (hE : E = 0) : 1 ≤ l.length ∧ l.length ≤ 20 ∧ n = (termsN l : Int) ∧ ∀ s ∈ l, starErr (termsN l) s = 0 := by
  subst hE
  unfold starsF at h
  by_cases h0 : l.length = 0
  · rw [if_pos h0] at h; cases h
  rw [if_neg h0] at h
  by_cases h1 : 20 < l.length
  · rw [if_pos h1] at h; cases h
  rw [if_neg h1] at h
  by_cases h2 : (firstStep (fun _ s => starErr (termsN l) s) 0 l).2 ≠ 0
  · rw [if_pos h2] at h; exact absurd (congrArg Prod.snd h) h2
  rw [if_neg h2] at h
  refine ⟨by omega, by omega, (congrArg Prod.fst h).symm, fun s hs => ?_⟩
  obtain ⟨j, hj⟩ := List.getElem?_of_mem hs
  exact firstStep_zero _ _ _ (by simpa using h2) j s hj
theorem star_right {n : Nat} {s : Star} (h : starErr n s = 0) : s.xs.length = n ∧ 1 ≤ n ∧ n ≤ 3 ∧ (∀ z ∈ s.xs, -100 ≤ z ∧ z ≤ 100) ∧ -1000 ≤ s.er ∧ s.er ≤ 1000 := by
  unfold starErr at h
  by_cases h1 : s.xs.length ≠ n ∨ withinB (n : Int) 1 3 = false
  · rw [if_pos h1] at h; cases h
  rw [if_neg h1] at h
  by_cases h2 : smallL 100 s.xs = false ∨ smallL 1000 [s.er] = false
  · rw [if_pos h2] at h; cases h
  have h3 : s.xs.length = n := by
    rcases Nat.decEq s.xs.length n with e | e
    · exact absurd (.inl e) h1
    · exact e
  have h4 : withinB (n : Int) 1 3 = true := by cases hx : withinB (n : Int) 1 3 <;> simp_all
  have h5 : smallL 100 s.xs = true := by cases hx : smallL 100 s.xs <;> simp_all
  have h6 : smallL 1000 [s.er] = true := by cases hx : smallL 1000 [s.er] <;> simp_all
  have h4 := (withinB_iff _ _ _).1 h4
  rw [small_one] at h6
  have h6 := (withinB_iff _ _ _).1 h6
  unfold smallL at h5
  rw [List.all_eq_true] at h5
  exact ⟨h3, by omega, by omega, fun z hz => (withinB_iff _ _ _).1 (h5 z hz), h6.1, h6.2⟩

set_option maxRecDepth 100000 in
set_option maxHeartbeats 4000000 in
theorem pstars_is (l : List Star) (A : Option Addr) (n c : Nat) (T E : Int) (hE : starsF l = (T, E)) (w : World) (hx : StarsAt l A n w) (hn : n ≤ 9223372036854775807) :
    Calls Try.prog 30 #[.slice A n c] w fun e w' => e = .returned (.tuple #[.int .i64 T, .int .i64 E]) ∧ Below w.heap.size w w' := by
  have hl := hx.len
  have HE := Lib.hid hE
  have HL := Lib.hid hl
  clear hE hl
  by_cases h0 : n = 0
  · have he : (T, E) = (0, 10) := by rw [← HE.out]; unfold starsF; rw [if_pos (by rw [HL.out]; exact h0)]
    cases he
    have hd : ((n : Int) == 0) = true := by simp [h0]
    clear hx
    go_enter Try.func30, Try.ntmps30
    go_wp2
    go_ret2
    exact ⟨rfl, Below.refl _ _⟩
  have hd0 : ((n : Int) == 0) = false := by simpa using h0
  by_cases h20 : 20 < n
  · have he : (T, E) = (0, 8) := by rw [← HE.out]; unfold starsF; rw [if_neg (by rw [HL.out]; exact h0), if_pos (by rw [HL.out]; exact h20)]
    cases he
    have hd : (20 : Int) < (n : Int) := by omega
    clear hx
    go_enter Try.func30, Try.ntmps30
    go_wp2
    go_ret2
    exact ⟨rfl, Below.refl _ _⟩
  have hd20 : ¬ (20 : Int) < (n : Int) := by omega
  obtain ⟨zb, zo, s0, rfl, hzb, hs0, c0, -, -, hs0l, -⟩ := hx.at_ (i := 0) (by omega)
  simp only [Nat.zero_mul, Nat.add_zero] at c0
  obtain ⟨N, hN⟩ : ∃ N, termsN l = N := ⟨_, rfl⟩
  have hNs : s0.n = N := by rw [← hN]; unfold termsN; rw [hs0]; exact hs0l.symm
  rw [hNs] at c0
  have HX := Lib.hid hx
  have HN := Lib.hid hN
  clear hx hs0 hs0l hNs hN
  go_enter Try.func30, Try.ntmps30
  go_wp2
  go_loopw [22] (fun i wr => ∃ k : Nat, k ≤ n ∧ i = .int .i64 k ∧ Below w.heap.size w wr ∧ ∀ j t, j < k → l[j]? = some t → starErr (termsN l) t = 0) (fun i _ => n - (intOf i).toNat)
  case atStart => exact ⟨0, by omega, rfl, Below.refl _ _, fun j t hj => absurd hj (by omega)⟩
  case round =>
    obtain ⟨k, hk, rfl, hb, hpre⟩ := hrel
    obtain ⟨w1, hnm⟩ : ∃ z : World, z = wr := ⟨_, rfl⟩
    subst hnm
    have hxr := HX.out.lay hb
    have hzs := hb.size
    have HPRE := Lib.hid hpre
    clear hpre c0
    by_cases hlt : k < n
    rotate_left
    · have he : (T, E) = ((N : Int), 0) := by rw [← HE.out, stars_all (by rw [HL.out]; exact h0) (by rw [HL.out]; exact h20) (fun j t hj ht => HPRE.out j t (by rw [HL.out] at hj; omega) ht), HN.out]
      cases he
      have HB := Lib.hid hb
      clear hb
      go_wp2
      go_ret2
      exact ⟨rfl, HB.out⟩
    have HB1 := Lib.hid hb
    clear hb
    obtain ⟨xb, xo, s, hA, hxb, hs, d0, d1, ⟨sc1, sc2⟩, hsl, hsr⟩ := hxr.at_ hlt
    obtain ⟨rfl, rfl⟩ : zb = xb ∧ zo = xo := by simpa using hA
    have HS := Lib.hid hs
    have HSR := Lib.hid hsr
    have HSL := Lib.hid hsl
    clear hs hsr hsl hA hxr
    obtain ⟨sA, sn, sc, sx, se⟩ := s
    simp only at d0 d1 sc1 sc2
    by_cases hsn : sn = N
    rotate_left
    · have hne : ((sn : Int) != (N : Int)) = true := by rw [bne_iff_ne]; omega
      have he : (T, E) = (0, 10) := by
        rw [← HE.out]
        refine stars_stop (by rw [HL.out]; exact h0) (by rw [HL.out]; exact h20) HPRE.out HS.out ?_ (by decide)
        unfold starErr
        rw [if_pos (.inl (by rw [HN.out]; have := HSL.out; simp only at this ⊢; omega))]
      cases he
      go_wp2
      go_ret2
      exact ⟨rfl, HB1.out.alloc (by omega) _⟩
    subst hsn
    have heq : ((sn : Int) != (sn : Int)) = false := by simp
    cases hw : withinB (sn : Int) 1 3 with
    | false =>
      have HW := Lib.hid hw
      have he : (T, E) = (0, 10) := by
        rw [← HE.out]
        refine stars_stop (by rw [HL.out]; exact h0) (by rw [HL.out]; exact h20) HPRE.out HS.out ?_ (by decide)
        unfold starErr
        rw [if_pos (.inr (by rw [HN.out]; exact hw))]
      cases he
      clear hw
      go_wp2_with fail
      refine (withinpt_is _ _ _ _ HW.out _).mono ?_
      rintro e w' ⟨rfl, rfl⟩
      go_wp2
      go_ret2
      exact ⟨rfl, HB1.out.alloc (by omega) _⟩
    | true =>
    have HW := Lib.hid hw
    have hnot : ¬ (sx.length ≠ termsN l ∨ withinB ((termsN l : Nat) : Int) 1 3 = false) := by
      rw [HN.out]
      rintro (h | h)
      · exact h HSL.out
      · rw [hw] at h; cases h
    have HNOT := Lib.hid hnot
    clear hw hnot
    cases hm : smallL 100 sx with
    | false =>
      have HM := Lib.hid hm
      have he : (T, E) = (0, 2) := by
        rw [← HE.out]
        refine stars_stop (by rw [HL.out]; exact h0) (by rw [HL.out]; exact h20) HPRE.out HS.out ?_ (by decide)
        unfold starErr
        rw [if_neg HNOT.out, if_pos (.inl hm)]
      cases he
      clear hm
      go_wp2_with fail
      refine (withinpt_is _ _ _ _ HW.out _).mono ?_
      rintro e w' ⟨rfl, rfl⟩
      go_wp2_with fail
      refine (smallpt_is 100 sA sn sc _ sx false HM.out _ (by omega) (by omega) (HSR.out.alloc (Nat.le_refl _) _) (by simp) (by omega)).mono ?_
      rintro e w2 ⟨rfl, hb⟩
      have HB2 := Lib.hid (show Below w.heap.size w w2 from step_below hb (by repeat' (first | exact Below.refl _ _ | exact HB1.out | refine below_drewN ?_ _ | refine Below.drew ?_ | refine Below.alloc ?_ (by first | omega | (simp; done) | (simp; omega) | (simp [World.setCell]; omega)) _ | refine Below.setCell ?_ (by first | omega | (simp; done) | (simp; omega)) _ | assumption)))
      have K0_2 := Lib.hid (step_blk hb (show Blk _ (w1.heap.size) 52 #[.slice sA sn sc, .int .i64 (se)] by repeat' (first | exact Blk.at_ _ (by first | rfl | (simp; done) | (simp; omega)) _ _ | refine Blk.drewN ?_ _ | refine Blk.drew ?_ | refine Blk.alloc ?_ _ | refine Blk.far ?_ (by first | omega | (simp; done) | (simp; omega)) _ | assumption)))
      have hz2 := hb.size
      try simp only [World.size_alloc, World.drewN, World.drew] at hz2
      clear hb
      have l0_2 : w1.heap.size < w2.heap.size := K0_2.out.lt
      have z0_0_2 : w2.cell? ⟨w1.heap.size, 0, none⟩ = some (.slice sA sn sc) := K0_2.out.cell 0
      have z0_1_2 : w2.cell? ⟨w1.heap.size, 1, none⟩ = some (.int .i64 (se)) := K0_2.out.cell 1
      go_wp2
      go_ret2
      exact ⟨rfl, HB2.out⟩
    | true =>
    have HM := Lib.hid hm
    obtain ⟨b, hb'⟩ : ∃ b, smallL 1000 [se] = b := ⟨_, rfl⟩
    have HM2 := Lib.hid hb'
    cases b with
    | false =>
      have he : (T, E) = (0, 2) := by
        rw [← HE.out]
        refine stars_stop (by rw [HL.out]; exact h0) (by rw [HL.out]; exact h20) HPRE.out HS.out ?_ (by decide)
        unfold starErr
        rw [if_neg HNOT.out, if_pos (.inr hb')]
      cases he
      clear hm hb'
      go_wp2_with fail
      refine (withinpt_is _ _ _ _ HW.out _).mono ?_
      rintro e w' ⟨rfl, rfl⟩
      go_wp2_with fail
      refine (smallpt_is 100 sA sn sc _ sx true HM.out _ (by omega) (by omega) (HSR.out.alloc (Nat.le_refl _) _) (by simp) (by omega)).mono ?_
      rintro e w2 ⟨rfl, hb⟩
      have HB2 := Lib.hid (show Below w.heap.size w w2 from step_below hb (by repeat' (first | exact Below.refl _ _ | exact HB1.out | refine below_drewN ?_ _ | refine Below.drew ?_ | refine Below.alloc ?_ (by first | omega | (simp; done) | (simp; omega) | (simp [World.setCell]; omega)) _ | refine Below.setCell ?_ (by first | omega | (simp; done) | (simp; omega)) _ | assumption)))
      have K0_2 := Lib.hid (step_blk hb (show Blk _ (w1.heap.size) 52 #[.slice sA sn sc, .int .i64 (se)] by repeat' (first | exact Blk.at_ _ (by first | rfl | (simp; done) | (simp; omega)) _ _ | refine Blk.drewN ?_ _ | refine Blk.drew ?_ | refine Blk.alloc ?_ _ | refine Blk.far ?_ (by first | omega | (simp; done) | (simp; omega)) _ | assumption)))
      have hz2 := hb.size
      try simp only [World.size_alloc, World.drewN, World.drew] at hz2
      clear hb
      have l0_2 : w1.heap.size < w2.heap.size := K0_2.out.lt
      have z0_0_2 : w2.cell? ⟨w1.heap.size, 0, none⟩ = some (.slice sA sn sc) := K0_2.out.cell 0
      have z0_1_2 : w2.cell? ⟨w1.heap.size, 1, none⟩ = some (.int .i64 (se)) := K0_2.out.cell 1
      go_wp2_with fail
      refine (smallpt_lit 1000 [se] 1 _ _ false HM2.out _ (by first | rfl | simp) rfl (by omega) (by omega) (by omega)).mono ?_
      rintro e w3 ⟨rfl, hb⟩
      have HB3 := Lib.hid (show Below w.heap.size w w3 from step_below hb (by repeat' (first | exact Below.refl _ _ | exact HB2.out | refine below_drewN ?_ _ | refine Below.drew ?_ | refine Below.alloc ?_ (by first | omega | (simp; done) | (simp; omega) | (simp [World.setCell]; omega)) _ | refine Below.setCell ?_ (by first | omega | (simp; done) | (simp; omega)) _ | assumption)))
      have K0_3 := Lib.hid (step_blk hb (show Blk _ (w1.heap.size) 52 #[.slice sA sn sc, .int .i64 (se)] by repeat' (first | exact K0_2.out | exact Blk.at_ _ (by first | rfl | (simp; done) | (simp; omega)) _ _ | refine Blk.drewN ?_ _ | refine Blk.drew ?_ | refine Blk.alloc ?_ _ | refine Blk.far ?_ (by first | omega | (simp; done) | (simp; omega)) _ | assumption)))
      have hz3 := hb.size
      try simp only [World.size_alloc, World.drewN, World.drew] at hz3
      clear hb K0_2 z0_0_2 z0_1_2 l0_2
      have l0_3 : w1.heap.size < w3.heap.size := K0_3.out.lt
      have z0_0_3 : w3.cell? ⟨w1.heap.size, 0, none⟩ = some (.slice sA sn sc) := K0_3.out.cell 0
      have z0_1_3 : w3.cell? ⟨w1.heap.size, 1, none⟩ = some (.int .i64 (se)) := K0_3.out.cell 1
      go_wp2
      go_ret2
      exact ⟨rfl, HB3.out⟩
    | true =>
      have hst : starErr (termsN l) ⟨sA, sn, sc, sx, se⟩ = 0 := by
        unfold starErr
        rw [if_neg HNOT.out, if_neg (by simp only [hm, hb']; simp)]
      have HST := Lib.hid hst
      clear hm hb' hst
      go_wp2_with fail
      refine (withinpt_is _ _ _ _ HW.out _).mono ?_
      rintro e w' ⟨rfl, rfl⟩
      go_wp2_with fail
      refine (smallpt_is 100 sA sn sc _ sx true HM.out _ (by omega) (by omega) (HSR.out.alloc (Nat.le_refl _) _) (by simp) (by omega)).mono ?_
      rintro e w2 ⟨rfl, hb⟩
      have HB2 := Lib.hid (show Below w.heap.size w w2 from step_below hb (by repeat' (first | exact Below.refl _ _ | exact HB1.out | refine below_drewN ?_ _ | refine Below.drew ?_ | refine Below.alloc ?_ (by first | omega | (simp; done) | (simp; omega) | (simp [World.setCell]; omega)) _ | refine Below.setCell ?_ (by first | omega | (simp; done) | (simp; omega)) _ | assumption)))
      have K0_2 := Lib.hid (step_blk hb (show Blk _ (w1.heap.size) 52 #[.slice sA sn sc, .int .i64 (se)] by repeat' (first | exact Blk.at_ _ (by first | rfl | (simp; done) | (simp; omega)) _ _ | refine Blk.drewN ?_ _ | refine Blk.drew ?_ | refine Blk.alloc ?_ _ | refine Blk.far ?_ (by first | omega | (simp; done) | (simp; omega)) _ | assumption)))
      have hz2 := hb.size
      try simp only [World.size_alloc, World.drewN, World.drew] at hz2
      clear hb
      have l0_2 : w1.heap.size < w2.heap.size := K0_2.out.lt
      have z0_0_2 : w2.cell? ⟨w1.heap.size, 0, none⟩ = some (.slice sA sn sc) := K0_2.out.cell 0
      have z0_1_2 : w2.cell? ⟨w1.heap.size, 1, none⟩ = some (.int .i64 (se)) := K0_2.out.cell 1
      go_wp2_with fail
      refine (smallpt_lit 1000 [se] 1 _ _ true HM2.out _ (by first | rfl | simp) rfl (by omega) (by omega) (by omega)).mono ?_
      rintro e w3 ⟨rfl, hb⟩
      have HB3 := Lib.hid (show Below w.heap.size w w3 from step_below hb (by repeat' (first | exact Below.refl _ _ | exact HB2.out | refine below_drewN ?_ _ | refine Below.drew ?_ | refine Below.alloc ?_ (by first | omega | (simp; done) | (simp; omega) | (simp [World.setCell]; omega)) _ | refine Below.setCell ?_ (by first | omega | (simp; done) | (simp; omega)) _ | assumption)))
      have K0_3 := Lib.hid (step_blk hb (show Blk _ (w1.heap.size) 52 #[.slice sA sn sc, .int .i64 (se)] by repeat' (first | exact K0_2.out | exact Blk.at_ _ (by first | rfl | (simp; done) | (simp; omega)) _ _ | refine Blk.drewN ?_ _ | refine Blk.drew ?_ | refine Blk.alloc ?_ _ | refine Blk.far ?_ (by first | omega | (simp; done) | (simp; omega)) _ | assumption)))
      have hz3 := hb.size
      try simp only [World.size_alloc, World.drewN, World.drew] at hz3
      clear hb K0_2 z0_0_2 z0_1_2 l0_2
      have l0_3 : w1.heap.size < w3.heap.size := K0_3.out.lt
      have z0_0_3 : w3.cell? ⟨w1.heap.size, 0, none⟩ = some (.slice sA sn sc) := K0_3.out.cell 0
      have z0_1_3 : w3.cell? ⟨w1.heap.size, 1, none⟩ = some (.int .i64 (se)) := K0_3.out.cell 1
      go_wp2
      go_roundw
      case rel =>
        refine ⟨k + 1, by omega, by go_num, HB3.out, fun j t hj ht => ?_⟩
        rcases Nat.lt_or_ge j k with h | h
        · exact HPRE.out j t h ht
        · obtain rfl : j = k := by omega
          rw [HS.out] at ht
          cases ht
          exact HST.out
      case measure => simp [intOf]; omega

end Go.Proofs.Ytclnffpfbngjoaa

end
