import Derived.Test.YtdidcpealabaiaaQ14
import Derived.Test.YtdidcpealabaiaaQ10
import Derived.Test.YtdidcpealabaiaaQ4
import Derived.Test.YtdidcpealabaiaaQ2
import Derived.Laws.OwnMore
import Derived.Test.YtdidcpealabaiaaQ13

section
/- Contracts of the path of a choice and of its cost. -/
namespace Go.Proofs.Ytdidcpealabaiaa
open Go Go.RowKit

theorem ints_at {l : List Int} {q : Nat} {u : Value} (hu : (l.map (Value.int .i64))[q]? = some u) : ∃ z, l[q]? = some z ∧ .int .i64 z = u := by
  rw [List.getElem?_map] at hu
  cases h : l[q]? with
  | none => rw [h] at hu; cases hu
  | some t => rw [h] at hu; exact ⟨t, rfl, Option.some.inj hu⟩
theorem Reads.int_ {w : World} {B n : Nat} {A : Option Addr} {l : List Int} (h : Reads w B 1 A n (l.map (.int .i64))) {i : Nat} (hi : i < n) : ∃ b o z, A = some ⟨b, o, none⟩ ∧ b < B ∧ l[i]? = some z ∧ w.cell? ⟨b, o + i, none⟩ = some (.int .i64 z) := by
  obtain ⟨b, o, u, hA, hb, hu, hc⟩ := h.at_ hi
  obtain ⟨z, hz, rfl⟩ := ints_at hu
  exact ⟨b, o, z, hA, hb, hz, hc⟩
theorem Reads.ilen {w : World} {B n : Nat} {A : Option Addr} {l : List Int} (h : Reads w B 1 A n (l.map (.int .i64))) : l.length = n := by have := h.1; simpa using this

set_option maxRecDepth 100000 in
theorem pindex_no (A : Option Addr) (n c N : Nat) (l : List Int) (z : Int) (hz : z ∉ l) (w : World) (hx : Reads w N 1 A n (l.map (.int .i64))) (hn : n ≤ 9223372036854775807) :
    Calls Try.prog 146 #[.slice A n c, .int .i64 z] w fun e w' => e = .returned (.int .i64 (-1)) ∧ w = w' := by
  have HX := Lib.hid hx
  have HZ := Lib.hid hz
  clear hx hz
  go_enter Try.func146, Try.ntmps146
  go_wp2
  go_loop [8] (fun i => ∃ q : Nat, q ≤ n ∧ i = .int .i64 q) (fun i => n - (intOf i).toNat)
  case atStart => exact ⟨0, by omega, rfl⟩
  case round =>
    obtain ⟨q, hq, rfl⟩ := hrel
    by_cases hlt : q < n
    · obtain ⟨xb, xo, x, rfl, hxb, hx, c0⟩ := HX.out.int_ hlt
      have hne : (z == x) = false := by
        rw [beq_eq_false_iff_ne]
        rintro rfl
        exact HZ.out (List.mem_of_getElem? hx)
      clear hx
      go_wp2
      go_round
      case rel => exact ⟨q + 1, by omega, by go_num⟩
      case measure => simp [intOf]; omega
    · go_wp2
      go_ret
      exact ⟨rfl, rfl⟩
def IdxYes (l : List Int) (z : Int) (w : World) (e : Ending) (w' : World) : Prop := (∃ i : Nat, e = .returned (.int .i64 i) ∧ l[i]? = some z) ∧ w = w'
set_option maxRecDepth 100000 in
theorem pindex_yes (A : Option Addr) (n c N : Nat) (l : List Int) (z : Int) (hz : z ∈ l) (w : World) (hx : Reads w N 1 A n (l.map (.int .i64))) (hn : n ≤ 9223372036854775807) :
    Calls Try.prog 146 #[.slice A n c, .int .i64 z] w (IdxYes l z w) := by
  have hl := hx.ilen
  have HL := Lib.hid hl
  have HX := Lib.hid hx
  have HZ := Lib.hid hz
  clear hx hz hl
  go_enter Try.func146, Try.ntmps146
  go_wp2
  go_loop [8] (fun i => ∃ q : Nat, q ≤ n ∧ i = .int .i64 q ∧ ∀ j x, j < q → l[j]? = some x → x ≠ z) (fun i => n - (intOf i).toNat)
  case atStart => exact ⟨0, by omega, rfl, fun j x hj => absurd hj (by omega)⟩
  case round =>
    obtain ⟨q, hq, rfl, hpre⟩ := hrel
    have HPRE := Lib.hid hpre
    clear hpre
    by_cases hlt : q < n
    · obtain ⟨xb, xo, x, rfl, hxb, hx, c0⟩ := HX.out.int_ hlt
      have HXQ := Lib.hid hx
      clear hx
      by_cases he : z = x
      · subst he
        go_wp2
        go_ret
        exact (show IdxYes l z _ _ _ from ⟨⟨q, rfl, HXQ.out⟩, rfl⟩)
      · have hne : (z == x) = false := by rw [beq_eq_false_iff_ne]; exact he
        go_wp2
        go_round
        case rel =>
          refine ⟨q + 1, by omega, by go_num, fun j y hj hy => ?_⟩
          rcases Nat.lt_or_ge j q with h | h
          · exact HPRE.out j y h hy
          · obtain rfl : j = q := by omega
            rw [HXQ.out] at hy
            cases hy
            exact fun e => he e.symm
        case measure => simp [intOf]; omega
    · exfalso
      obtain ⟨j, hj⟩ := List.getElem?_of_mem HZ.out
      have hjl := (List.getElem?_eq_some_iff.1 hj).1
      rw [HL.out] at hjl
      exact HPRE.out j z (by omega) hj rfl

theorem Reads.slen {w : World} {B n : Nat} {A : Option Addr} {l : List Stp} (h : Reads w B 8 A n (stpCells l)) : l.length = n := by
  have := h.1; rw [stpCells_length] at this; omega
theorem Reads.stp {w : World} {B n : Nat} {A : Option Addr} {l : List Stp} (h : Reads w B 8 A n (stpCells l)) {i : Nat} (hi : i < n) :
    ∃ b o s, A = some ⟨b, o, none⟩ ∧ b < B ∧ l[i]? = some s ∧ w.cell? ⟨b, o + i * 8 + 6, none⟩ = some (.slice s.A s.n s.c) ∧ w.cell? ⟨b, o + i * 8 + 7, none⟩ = some (.slice s.A' s.n s.c') ∧ ∀ j u, j < 8 → s.cells[j]? = some u → w.cell? ⟨b, o + i * 8 + j, none⟩ = some u := by
  obtain ⟨b, o, e, hb, hc⟩ := h.2 (by omega)
  have hl := h.slen
  have hil : i < l.length := by omega
  have g : ∀ j u, j < 8 → (l[i]).cells[j]? = some u → w.cell? ⟨b, o + i * 8 + j, none⟩ = some u := fun j u hj hu => by
    rw [Nat.add_assoc]; exact hc _ u (by rw [stpCells_get l i hil j hj, hu])
  exact ⟨b, o, l[i], e, hb, List.getElem?_eq_getElem hil, g 6 _ (by omega) rfl, g 7 _ (by omega) rfl, g⟩

/-- The position of a target by a turn. -/
def posK (m : Mnt) (day : Int) (t : Tgt) (k : Int) : Int := (appF m t day).1 + k * 1296000
def turnOk (m : Mnt) (day : Int) (t : Tgt) (k : Int) : Bool := decide (k ∈ turnsV m day t)
def pathL (m : Mnt) (day : Int) : List Tgt → List Int → List Int := List.zipWith (posK m day)
def pathOk (m : Mnt) (day : Int) (l : List Tgt) (ks : List Int) : Bool := (List.zipWith (turnOk m day) l ks).all id
/-- The error of a choice. -/
def pathErr (m : Mnt) (day : Int) (l : List Tgt) (ks : List Int) : Int := if ks.length ≠ l.length then 10 else if pathOk m day l ks = false then 6 else 0
theorem path_bad {m : Mnt} {day : Int} {l : List Tgt} {ks : List Int} {i : Nat} {t : Tgt} {k : Int} (ht : l[i]? = some t) (hk : ks[i]? = some k) (h : turnOk m day t k = false) : pathOk m day l ks = false := by
  unfold pathOk
  rw [List.all_eq_false]
  refine ⟨false, ?_, by simp⟩
  have : (List.zipWith (turnOk m day) l ks)[i]? = some false := by rw [List.getElem?_zipWith, ht, hk]; simp [h]
  exact List.mem_of_getElem? this
theorem path_good {m : Mnt} {day : Int} {l : List Tgt} {ks : List Int} (h : ∀ (i : Nat) t k, l[i]? = some t → ks[i]? = some k → turnOk m day t k = true) : pathOk m day l ks = true := by
  unfold pathOk
  rw [List.all_eq_true]
  intro b hb
  obtain ⟨i, hi⟩ := List.getElem?_of_mem hb
  rw [List.getElem?_zipWith] at hi
  cases ht : l[i]? with
  | none => rw [ht] at hi; cases hi
  | some t =>
    cases hk : ks[i]? with
    | none => rw [ht, hk] at hi; cases hi
    | some k =>
      rw [ht, hk] at hi
      have := h i t k ht hk
      cases hi
      simpa using this
theorem path_at {m : Mnt} {day : Int} {l : List Tgt} {ks : List Int} {i : Nat} {t : Tgt} {k : Int} (hp : pathOk m day l ks = true) (ht : l[i]? = some t) (hk : ks[i]? = some k) : turnOk m day t k = true := by
  cases h : turnOk m day t k with
  | true => rfl
  | false => rw [path_bad ht hk h] at hp; cases hp
theorem pathL_snoc {m : Mnt} {day : Int} {l : List Tgt} {ks : List Int} {i : Nat} {t : Tgt} {k : Int} (ht : l[i]? = some t) (hk : ks[i]? = some k) : (pathL m day l ks).take (i + 1) = (pathL m day l ks).take i ++ [posK m day t k] := by
  have : (pathL m day l ks)[i]? = some (posK m day t k) := by unfold pathL; rw [List.getElem?_zipWith, ht, hk]
  rw [List.take_add_one, this]; rfl
theorem pathL_len {m : Mnt} {day : Int} {l : List Tgt} {ks : List Int} (h : ks.length = l.length) : (pathL m day l ks).length = l.length := by unfold pathL; rw [List.length_zipWith, h]; omega
theorem posL_get {X k : Int} {L : List Int} {i : Nat} (h : L[i]? = some k) : (posL X L)[i]? = some (X + k * 1296000) := by unfold posL; rw [List.getElem?_map, h]; rfl

def PathOk (P : List Int) (n : Nat) (w : World) (e : Ending) (w' : World) : Prop :=
  ∃ A c, e = .returned (.tuple #[.slice A n c, .int .i64 0]) ∧ Below w.heap.size w w' ∧ Reads w' w'.heap.size 1 A n (P.map (.int .i64))
theorem PathOk.mk' {P : List Int} {n : Nat} {w w' : World} {e : Ending} {A : Option Addr} {c : Nat} (h1 : e = .returned (.tuple #[.slice A n c, .int .i64 0])) (h2 : Below w.heap.size w w') (h3 : Reads w' w'.heap.size 1 A n (P.map (.int .i64))) : PathOk P n w e w' := ⟨A, c, h1, h2, h3⟩
def PathFit (E : Int) (P : List Int) (n : Nat) (w : World) (e : Ending) (w' : World) : Prop :=
  (E ≠ 0 → e = .returned (.tuple #[.slice none 0 0, .int .i64 E]) ∧ Below w.heap.size w w') ∧ (E = 0 → PathOk P n w e w')

set_option maxRecDepth 100000 in
set_option maxHeartbeats 4000000 in
theorem ppath_any (m : Mnt) (day pos : Int) (l : List Tgt) (tb : Nat) (A : Option Addr) (c : Nat) (S : List Stp) (At : Option Addr) (nt ct : Nat) (ks : List Int) (w : World) (hT : TourAt m day pos l tb A c S w) (hk : Reads w w.heap.size 1 At nt (ks.map (.int .i64))) (hn : nt ≤ ct ∧ ct ≤ 9223372036854775807) (hl : l.length ≤ 20) (E : Int) (hE : pathErr m day l ks = E) (n : Nat) (hln : l.length = n) :
    Calls Try.prog 104 #[.pointer (some ⟨tb, 0, none⟩), .slice At nt ct] w (PathFit E (pathL m day l ks) n w) := by
  obtain ⟨hn, hc⟩ := hn
  have hkl := hk.ilen
  have hblk := hT.blk
  rw [hln] at hblk hl
  have HT := Lib.hid hT
  have HK := Lib.hid hk
  have HKL := Lib.hid hkl
  have HE := Lib.hid hE
  have HLN := Lib.hid hln
  have htb := hblk.lt
  clear hT hk hkl hE hln
  by_cases hsh : nt = n
  rotate_left
  · have he : E = 10 := by rw [← HE.out]; unfold pathErr; rw [if_pos (by rw [HKL.out, HLN.out]; exact hsh)]
    subst he
    have hne : ((nt : Int) != (n : Int)) = true := by rw [bne_iff_ne]; omega
    have z1 := hblk.cell 1
    clear hblk
    go_enter Try.func104, Try.ntmps104
    go_wp2
    go_ret2
    exact (show PathFit _ _ _ _ _ _ from ⟨fun _ => ⟨rfl, Below.refl _ _⟩, fun h => by cases h⟩)
  subst hsh
  have heq : ((nt : Int) != (nt : Int)) = false := by simp
  have HB := Lib.hid hblk
  have z1 := hblk.cell 1
  simp only [List.getElem?_toArray, List.getElem?_cons_succ, List.getElem?_cons_zero] at z1
  obtain ⟨i0, hi0, hz0, hz1, hz2⟩ := info_parts info_ints1
  have HI0 := Lib.hid hi0
  have HZ0 := Lib.hid hz0
  have HZ1 := Lib.hid hz1
  have HZ2 := Lib.hid hz2
  clear hblk hi0 hz0 hz1 hz2
  go_enter Try.func104, Try.ntmps104
  go_wp2
  go_loopw [6, 20] (fun v i wr => ∃ k : Nat, k ≤ nt ∧ i = .int .i64 k ∧ Below w.heap.size w wr ∧ wr.ownsRow w.heap.size 3 1 v k (((pathL m day l ks).take k).map (.int .i64)) ∧ ∀ (j : Nat) t q, j < k → l[j]? = some t → ks[j]? = some q → turnOk m day t q = true) (fun _ i _ => nt - (intOf i).toNat)
  case atStart => exact ⟨0, by omega, rfl, Below.refl _ _, World.ownsRow_nil _ _ _ _, fun j t q hj => absurd hj (by omega)⟩
  case round =>
    obtain ⟨k, hkn, rfl, hb, ho, hpre⟩ := hrel
    obtain ⟨w1, hnm⟩ : ∃ z : World, z = wr := ⟨_, rfl⟩
    subst hnm
    have HBW := Lib.hid hb
    have HO := Lib.hid ho
    have HPRE := Lib.hid hpre
    have hbs := hb.size
    clear hb ho hpre
    by_cases hlt : k < nt
    rotate_left
    · have hkn : k = nt := by omega
      subst hkn
      have hall : pathOk m day l ks = true := path_good fun i t q ht hq => HPRE.out i t q (by have := (List.getElem?_eq_some_iff.1 ht).1; rw [HLN.out] at this; exact this) ht hq
      have he : E = 0 := by rw [← HE.out]; unfold pathErr; rw [if_neg (by rw [HKL.out, HLN.out]; simp), if_neg (by rw [hall]; simp)]
      subst he
      obtain ⟨A9, c9, rfl, hr9⟩ := own_reads HO.out
      rw [List.take_of_length_le (by rw [pathL_len (by rw [HKL.out, HLN.out]), HLN.out]; omega)] at hr9
      have HR9 := Lib.hid hr9
      clear hall hr9
      go_wp2
      go_ret2
      exact (show PathFit _ _ _ _ _ _ from ⟨fun h => absurd rfl h, fun _ => PathOk.mk' rfl HBW.out HR9.out⟩)
    have hT1 := HT.out.lay HBW.out
    obtain ⟨yb, yo, q, rfl, hyb, hq, d0⟩ := ((HK.out.below HBW.out).more hbs).int_ hlt
    have hrow := hT1.row
    rw [HLN.out] at hrow
    obtain ⟨xb, xo, s, rfl, hxb, hs, c6, c7, -⟩ := hrow.stp hlt
    have hok := hT1.ok s (List.mem_of_getElem? hs)
    have hst : l[k]? = some s.t := by rw [← HT.out.ts, List.getElem?_map, hs]; rfl
    have f1 := (HBW.out.cell (p := ⟨tb, 1, none⟩) htb).trans z1
    have hsn : s.n ≤ 43 := by
      have h1 := hok.1.ilen
      have h2 : (turnsV m day s.t).length ≤ 43 := by
        unfold turnsV turnsF turnsAt
        split
        · simp
        · split
          · simp
          · exact turnsTo_len _ _ _ _
      omega
    have HOK1 := Lib.hid hok.1
    have HOK2 := Lib.hid hok.2
    have HST := Lib.hid hst
    have HQ := Lib.hid hq
    clear hT1 hrow hs hok hst hq
    by_cases hmem : q ∈ turnsV m day s.t
    · have hyes : turnOk m day s.t q = true := by unfold turnOk; exact decide_eq_true hmem
      have HY := Lib.hid hyes
      clear hyes
      go_wp2_with fail
      refine (pindex_yes s.A s.n s.c _ (turnsV m day s.t) q hmem _ HOK1.out (by omega)).mono ?_
      rintro e w' ⟨⟨i, rfl, hi⟩, rfl⟩
      have hin : i < s.n := by
        have := (List.getElem?_eq_some_iff.1 hi).1
        rw [HOK1.out.ilen] at this; exact this
      obtain ⟨pb, po, z, hA', hpb, hz, e0⟩ := HOK2.out.int_ hin
      have hzz : z = posK m day s.t q := by
        have := posL_get (X := (appF m s.t day).1) hi
        unfold posV at hz
        rw [hz] at this
        exact Option.some.inj this
      rw [hzz] at e0
      rw [hA'] at c7
      have hi0 : ¬ (i : Int) < 0 := by omega
      obtain ⟨W, hW⟩ : ∃ W, W = w1.alloc (.cells #[.int .i64 (posK m day s.t q)] 3) := ⟨_, rfl⟩
      have hoW : W.ownsRow w.heap.size 3 1 u6 k (((pathL m day l ks).take k).map (.int .i64)) := by rw [hW]; exact HO.out.alloc _
      have hnb : Blk W w1.heap.size 3 #[.int .i64 (posK m day s.t q)] := by rw [hW]; exact Blk.new _ _ _
      have hbW : Below w.heap.size w W := by rw [hW]; exact HBW.out.alloc hbs _
      obtain ⟨v', W2, hrun, o2', hg2, hrow⟩ := run_append_any (P := Try.prog) W w.heap.size 43 43 3 i0 _ 1 8 Try.underlying43 HI0.out HZ0.out HZ1.out HZ2.out rfl (by omega) u6 k _ hoW W.heap.size (some ⟨w1.heap.size, 0, none⟩) 1 1 [.int .i64 (posK m day s.t q)] (Blk.reads hnb rfl) (by simp [Value.oneCell']) (by unfold maxLen; omega) (by omega) hbW.size
      have hb2 := Lib.hid (hbW.grown hg2 hbW.size (fun g hg => (own_lt hoW hg).1))
      rw [hW] at hrun
      have HRUN := Lib.hid hrun
      have HO2 := Lib.hid o2'
      have HII := Lib.hid hi
      clear hrun hg2 hrow hnb hoW hW hbW o2' hi hz hzz
      go_wp2_with (first | (at_builtin; refine wpList_app _ W2 v' rfl _ _ _ rfl _ _ rfl rfl HRUN.out ?_))
      go_roundw
      case rel =>
        refine ⟨k + 1, by omega, by go_num, hb2.out, by rw [pathL_snoc HST.out HQ.out, List.map_append]; exact HO2.out, fun j t q' hj ht hq' => ?_⟩
        rcases Nat.lt_or_ge j k with h | h
        · exact HPRE.out j t q' h ht hq'
        · obtain rfl : j = k := by omega
          rw [HST.out] at ht
          rw [HQ.out] at hq'
          cases ht; cases hq'
          exact HY.out
      case measure => simp [intOf]; omega
    · have hno : turnOk m day s.t q = false := by unfold turnOk; exact decide_eq_false hmem
      have he : E = 6 := by rw [← HE.out]; unfold pathErr; rw [if_neg (by rw [HKL.out, HLN.out]; simp), if_pos (path_bad HST.out HQ.out hno)]
      subst he
      clear hno
      go_wp2_with fail
      refine (pindex_no s.A s.n s.c _ (turnsV m day s.t) q hmem _ HOK1.out (by omega)).mono ?_
      rintro e w' ⟨rfl, rfl⟩
      go_wp2
      go_ret2
      exact (show PathFit _ _ _ _ _ _ from ⟨fun _ => ⟨rfl, HBW.out⟩, fun h => by cases h⟩)

end Go.Proofs.Ytdidcpealabaiaa

end

section
/- Stars in memory; the contract of their check. -/
namespace Go.Proofs.Ytdidcpealabaiaa
open Go Go.RowKit

/-- A star in memory. -/
structure Star where
  A : Option Addr
  n : Nat
  c : Nat
  xs : List Int
  er : Int
def Star.cells (s : Star) : List Value := [.slice s.A s.n s.c, .int .i64 s.er]
def starCells (l : List Star) : List Value := l.flatMap Star.cells
theorem starCells_length (l : List Star) : (starCells l).length = l.length * 2 := by
  unfold starCells
  induction l with
  | nil => rfl
  | cons t l ih => rw [List.flatMap_cons, List.length_append, ih, List.length_cons]; simp [Star.cells]; omega
theorem starCells_get (l : List Star) : ∀ (i : Nat) (h : i < l.length) (j : Nat), j < 2 → (starCells l)[i * 2 + j]? = (l[i]).cells[j]? := by
  unfold starCells
  induction l with
  | nil => intro i h; exact absurd h (by simp)
  | cons t l ih =>
    intro i h j hj
    rw [List.flatMap_cons]
    have ht : t.cells.length = 2 := rfl
    cases i with
    | zero => rw [Nat.zero_mul, Nat.zero_add, List.getElem?_append_left (by omega)]; rfl
    | succ i =>
      rw [List.getElem?_append_right (by omega), ht, show (i + 1) * 2 + j - 2 = i * 2 + j by omega]
      exact ih i (by simpa using h) j hj
structure StarsAt (l : List Star) (A : Option Addr) (n : Nat) (w : World) : Prop where
  row : Reads w w.heap.size 2 A n (starCells l)
  each : ∀ s ∈ l, (s.n ≤ s.c ∧ s.c ≤ 9223372036854775807) ∧ Reads w w.heap.size 1 s.A s.n (s.xs.map (.int .i64))
theorem StarsAt.lay {l : List Star} {A : Option Addr} {n : Nat} {w w' : World} (h : StarsAt l A n w) (hb : Below w.heap.size w w') : StarsAt l A n w' :=
  ⟨(h.row.below hb).more hb.size, fun s hs => ⟨(h.each s hs).1, ((h.each s hs).2.below hb).more hb.size⟩⟩
theorem StarsAt.len {l : List Star} {A : Option Addr} {n : Nat} {w : World} (h : StarsAt l A n w) : l.length = n := by have := h.row.1; rw [starCells_length] at this; omega
theorem StarsAt.at_ {l : List Star} {A : Option Addr} {n : Nat} {w : World} (h : StarsAt l A n w) {i : Nat} (hi : i < n) :
    ∃ b o s, A = some ⟨b, o, none⟩ ∧ b < w.heap.size ∧ l[i]? = some s ∧ w.cell? ⟨b, o + i * 2, none⟩ = some (.slice s.A s.n s.c) ∧ w.cell? ⟨b, o + i * 2 + 1, none⟩ = some (.int .i64 s.er) ∧ (s.n ≤ s.c ∧ s.c ≤ 9223372036854775807) ∧ s.xs.length = s.n ∧ Reads w w.heap.size 1 s.A s.n (s.xs.map (.int .i64)) := by
  obtain ⟨b, o, e, hb, hc⟩ := h.row.2 (by omega)
  have hl := h.len
  have hil : i < l.length := by omega
  have g : ∀ j u, j < 2 → (l[i]).cells[j]? = some u → w.cell? ⟨b, o + i * 2 + j, none⟩ = some u := fun j u hj hu => by
    rw [Nat.add_assoc]; exact hc _ u (by rw [starCells_get l i hil j hj, hu])
  obtain ⟨e1, e2⟩ := h.each _ (List.getElem_mem hil)
  exact ⟨b, o, l[i], e, hb, List.getElem?_eq_getElem hil, g 0 _ (by omega) rfl, g 1 _ (by omega) rfl, e1, e2.ilen, e2⟩

/-- The number of terms of the first star. -/
def termsN (l : List Star) : Nat := ((l[0]?).map fun s => s.xs.length).getD 0
def starErr (n : Nat) (s : Star) : Int := if s.xs.length ≠ n ∨ withinB (n : Int) 1 3 = false then 10 else if smallL 100 s.xs = false ∨ smallL 1000 [s.er] = false then 2 else 0
/-- The number of terms, and the error. -/
def starsF (l : List Star) : Int × Int :=
  if l.length = 0 then (0, 10) else if 20 < l.length then (0, 8) else if (firstStep (fun _ s => starErr (termsN l) s) 0 l).2 ≠ 0 then (0, (firstStep (fun _ s => starErr (termsN l) s) 0 l).2) else ((termsN l : Int), 0)
end Go.Proofs.Ytdidcpealabaiaa

end

section
/- The contract of determinants of at most three columns. -/
namespace Go.Proofs.Ytdidcpealabaiaa
open Go Go.RowKit

def In64 (x : Int) : Prop := -9223372036854775808 ≤ x ∧ x ≤ 9223372036854775807
def det2E (a b c d : Int) : Int := a * d - c * b
structure Det2In (a b c d : Int) : Prop where
  p1 : In64 (a * d)
  p2 : In64 (c * b)
  s : In64 (a * d - c * b)
def det3E (a00 a01 a02 a10 a11 a12 a20 a21 a22 : Int) : Int := a00 * (a11 * a22 - a21 * a12) - a10 * (a01 * a22 - a21 * a02) + a20 * (a01 * a12 - a11 * a02)
structure Det3In (a00 a01 a02 a10 a11 a12 a20 a21 a22 : Int) : Prop where
  p1 : In64 (a11 * a22)
  p2 : In64 (a21 * a12)
  s1 : In64 (a11 * a22 - a21 * a12)
  q1 : In64 (a00 * (a11 * a22 - a21 * a12))
  p3 : In64 (a01 * a22)
  p4 : In64 (a21 * a02)
  s2 : In64 (a01 * a22 - a21 * a02)
  q2 : In64 (a10 * (a01 * a22 - a21 * a02))
  p5 : In64 (a01 * a12)
  p6 : In64 (a11 * a02)
  s3 : In64 (a01 * a12 - a11 * a02)
  q3 : In64 (a20 * (a01 * a12 - a11 * a02))
  r1 : In64 (a00 * (a11 * a22 - a21 * a12) - a10 * (a01 * a22 - a21 * a02))
  r2 : In64 (det3E a00 a01 a02 a10 a11 a12 a20 a21 a22)
/-- The rows of a square matrix of at most three rows. -/
inductive Sq : List (List Int) → Int → Prop
  | one (a : Int) : Sq [[a]] a
  | two (a b c d : Int) : Det2In a b c d → Sq [[a, b], [c, d]] (det2E a b c d)
  | three (a00 a01 a02 a10 a11 a12 a20 a21 a22 : Int) : Det3In a00 a01 a02 a10 a11 a12 a20 a21 a22 → Sq [[a00, a01, a02], [a10, a11, a12], [a20, a21, a22]] (det3E a00 a01 a02 a10 a11 a12 a20 a21 a22)

end Go.Proofs.Ytdidcpealabaiaa

end

section
/- The plain law of the normal equations: sums, bounds, determinants, the common divisor. -/
namespace Go.Proofs.Ytdidcpealabaiaa
open Go Go.RowKit

def shp (s : Star) (i : Nat) : Int := s.xs.getD i 0
/-- Sums over the first stars. -/
def nrmTo (l : List Star) (q i k : Nat) : Int := ((l.take q).map fun s => shp s i * shp s k).sum
def rgtTo (l : List Star) (q i : Nat) : Int := ((l.take q).map fun s => shp s i * s.er).sum
/-- The columns of the normal equations, and the right side. -/
def colL (l : List Star) (N i : Nat) : List Int := (List.range N).map (nrmTo l l.length i)
def fitM (l : List Star) (N : Nat) : List (List Int) := (List.range N).map (colL l N)
def rgtL (l : List Star) (N : Nat) : List Int := (List.range N).map (rgtTo l l.length)
def detM : List (List Int) → Int
  | [[a]] => a
  | [[a, b], [c, d]] => det2E a b c d
  | [[a00, a01, a02], [a10, a11, a12], [a20, a21, a22]] => det3E a00 a01 a02 a10 a11 a12 a20 a21 a22
  | _ => 0

def InB (b x : Int) : Prop := -b ≤ x ∧ x ≤ b
/-- The greatest common divisor of a number and some more. -/
def gcdF (d : Int) : List Int → Int
  | [] => d
  | z :: r => gcdF (Int.gcd d z : Int) r
/-- The terms of the best model, before they are taken into lowest terms. -/
def fitT (l : List Star) (N : Nat) : List Int := (List.range N).map fun i => detM ((fitM l N).set i (rgtL l N))
def fitG (l : List Star) (N : Nat) : Int := gcdF (detM (fitM l N)) (fitT l N)
/-- The best model of right stars: terms, denominator, error. -/
def fitF (l : List Star) : (List Int × Int) × Int :=
  if detM (fitM l (termsN l)) = 0 then (([], 0), 11)
  else if smallL 1000000000000 (detM (fitM l (termsN l)) / fitG l (termsN l) :: (fitT l (termsN l)).map (· / fitG l (termsN l))) = false then (([], 0), 8)
  else (((fitT l (termsN l)).map (· / fitG l (termsN l)), detM (fitM l (termsN l)) / fitG l (termsN l)), 0)

end Go.Proofs.Ytdidcpealabaiaa

end

section
/- What a piece of a walk leaves as it was: all blocks but some; rows of cells given by a function. -/
namespace Go.Proofs.Ytdidcpealabaiaa
open Go.RowKit

/-- All that was there, apart from the blocks of X, is as it was. -/
structure Tch (X : Nat → Prop) (w w' : World) : Prop where
  os : w'.os = w.os
  tape : w'.tape = w.tape
  output : w'.output = w.output
  size : w.heap.size ≤ w'.heap.size
  block : ∀ i, i < w.heap.size → ¬ X i → w'.heap[i]? = w.heap[i]?
section
variable {X Y : Nat → Prop} {w w' w'' : World}
theorem Tch.refl (X : Nat → Prop) (w : World) : Tch X w w := ⟨rfl, rfl, rfl, Nat.le_refl _, fun _ _ _ => rfl⟩
theorem Tch.trans (h : Tch X w w') (k : Tch X w' w'') : Tch X w w'' := ⟨k.os.trans h.os, k.tape.trans h.tape, k.output.trans h.output, Nat.le_trans h.size k.size, fun i hi hx => (k.block i (Nat.lt_of_lt_of_le hi h.size) hx).trans (h.block i hi hx)⟩
theorem Tch.mono (h : Tch X w w') (hs : ∀ i, i < w.heap.size → X i → Y i) : Tch Y w w' := ⟨h.os, h.tape, h.output, h.size, fun i hi hy => h.block i hi fun hx => hy (hs i hi hx)⟩
theorem Tch.then_ (h : Tch X w w') (k : Tch Y w' w'') (hs : ∀ i, i < w.heap.size → Y i → X i) : Tch X w w'' := ⟨k.os.trans h.os, k.tape.trans h.tape, k.output.trans h.output, Nat.le_trans h.size k.size, fun i hi hx => (k.block i (Nat.lt_of_lt_of_le hi h.size) fun hy => hx (hs i hi hy)).trans (h.block i hi hx)⟩
theorem Tch.of_below (h : Below w.heap.size w w') : Tch X w w' := ⟨h.os, h.tape, h.output, h.size, fun i hi _ => h.block i hi⟩
theorem Tch.call (h : Tch X w w') (k : Below w'.heap.size w' w'') : Tch X w w'' := h.trans (Tch.of_below k)
theorem Tch.alloc (h : Tch X w w') (o : Obj) : Tch X w (w'.alloc o) := h.call ((Below.refl _ _).alloc (Nat.le_refl _) _)
theorem Tch.drewN (h : Tch X w w') (n : Nat) : Tch X w (w'.drewN n) := h.call (below_drewN (Below.refl _ _) n)
theorem Tch.drew (h : Tch X w w') : Tch X w w'.drew := ⟨h.os, h.tape, h.output, h.size, h.block⟩
theorem Tch.setCell (h : Tch X w w') {p : Addr} (hp : X p.block ∨ w.heap.size ≤ p.block) (u : Value) : Tch X w (w'.setCell p u) :=
  ⟨h.os, h.tape, h.output, by simpa [World.setCell] using h.size, fun i hi hx => (Below.heap_setCell w' p u i (by rintro rfl; rcases hp with hp | hp; exact hx hp; omega)).trans (h.block i hi hx)⟩
theorem Tch.blk (h : Tch X w w') {q : Nat} {t : TypeId} {cs : Array Value} (hq : Blk w q t cs) (hx : ¬ X q) : Blk w' q t cs := (h.block q hq.lt hx).trans hq
theorem Tch.below {B : Nat} (h : Tch X w w') (hx : ∀ q, X q → B ≤ q) (hB : B ≤ w.heap.size) : Below B w w' := ⟨h.os, h.tape, h.output, h.size, fun i hi => h.block i (by omega) fun hxi => by have := hx i hxi; omega⟩
theorem Tch.own (h : Tch X w w') {base n size : Nat} {e : TypeId} {v : Value} {xs : List Value} (ho : w.ownsRow base e size v n xs) (hx : ∀ q, v.ownBlock = some q → ¬ X q) : w'.ownsRow base e size v n xs :=
  own_same ho fun q hq => h.block q (own_lt ho hq).2 (hx q hq)
theorem Tch.grown (h : Tch X w w') {row : Option Nat} (hg : w'.grownBy w'' row) (hx : ∀ q, row = some q → X q ∨ w.heap.size ≤ q) : Tch X w w'' :=
  ⟨hg.os.trans h.os, hg.tape.trans h.tape, hg.output.trans h.output, Nat.le_trans h.size hg.size, fun i hi hxi => (hg.block i (Nat.lt_of_lt_of_le hi h.size) (fun e => by rcases hx i e.symm with k | k; exact hxi k; omega)).trans (h.block i hi hxi)⟩
end

/-- A block of n cells, told by a function. -/
def RB (w : World) (g : Nat) (t : TypeId) (n : Nat) (f : Nat → Value) : Prop := Blk w g t ((List.range n).map f).toArray
section
variable {w w' : World} {g n : Nat} {t : TypeId} {f f' : Nat → Value}
theorem RB.lt (h : RB w g t n f) : g < w.heap.size := Blk.lt h
theorem RB.cell (h : RB w g t n f) {k : Nat} (hk : k < n) : w.cell? ⟨g, k, none⟩ = some (f k) := by
  rw [Blk.cell h k]
  simp [hk]
theorem RB.frozen (h : RB w g t n f) (k : Nat) : w.frozen? ⟨g, k, none⟩ = false := Blk.frozen h k
theorem RB.congr (h : RB w g t n f) (he : ∀ k, k < n → f k = f' k) : RB w g t n f' := by
  have e : (List.range n).map f = (List.range n).map f' := List.map_congr_left fun k hk => he k (List.mem_range.1 hk)
  unfold RB at h ⊢
  rwa [e] at h
theorem RB.set_ (h : RB w g t n f) (k : Nat) (u : Value) : RB (w.setCell ⟨g, k, none⟩ u) g t n (fun j => if j = k then u else f j) := by
  have h' := Blk.set_ h k u
  unfold RB
  have e : ((List.range n).map f).toArray.setIfInBounds k u = ((List.range n).map (fun j => if j = k then u else f j)).toArray := by
    rw [List.setIfInBounds_toArray]
    congr 1
    apply List.ext_getElem?
    intro i
    rw [List.getElem?_set, List.getElem?_map]
    by_cases hin : i < n
    · by_cases hik : k = i
      · subst hik; simp [hin]
      · rw [if_neg hik]
        have : ¬ i = k := fun e => hik e.symm
        simp [hin, this]
    · simp only [List.getElem?_map, List.length_map, List.length_range]
      have : (List.range n)[i]? = none := by rw [List.getElem?_eq_none]; simp; omega
      rw [this]
      by_cases hik : k = i
      · subst hik; simp [hin]
      · rw [if_neg hik]; rfl
  rwa [e] at h'
theorem RB.reads (h : RB w g t n f) : Reads w w.heap.size 1 (some ⟨g, 0, none⟩) n ((List.range n).map f) := Blk.reads h (by simp)
end
theorem Tch.rb {X : Nat → Prop} {w w' : World} (h : Tch X w w') {g n : Nat} {t : TypeId} {f : Nat → Value} (hq : RB w g t n f) (hx : ¬ X g) : RB w' g t n f := Tch.blk h hq hx
theorem RB.lay {w w' : World} {g n : Nat} {t : TypeId} {f : Nat → Value} (h : RB w g t n f) (hb : Below w.heap.size w w') : RB w' g t n f := Blk.below h hb h.lt
theorem RB.alloc {w : World} {g n : Nat} {t : TypeId} {f : Nat → Value} (h : RB w g t n f) (o : Obj) : RB (w.alloc o) g t n f := Blk.alloc h o
theorem Tch.cell {X : Nat → Prop} {w w' : World} (h : Tch X w w') {p : Addr} (hp : p.block < w.heap.size) (hx : ¬ X p.block) : w'.cell? p = w.cell? p := World.cell?_of_block (h.block _ hp hx)
theorem made_one (z : Value) (n : Nat) : madeCells #[z] n = ((List.range n).map fun _ => z).toArray := by
  have h := toList_madeCells_one z n
  apply Array.ext'
  rw [h]
  simp [List.map_const']

end Go.Proofs.Ytdidcpealabaiaa

end

section
/- The contract of the best model of stars. -/
namespace Go.Proofs.Ytdidcpealabaiaa
open Go Go.RowKit

/-- The right side, so far: whole below i, of q stars at i. -/
def rgtV (l : List Star) (i q : Nat) (j : Nat) : Value := if j < i then .int .i64 (rgtTo l l.length j) else if j = i then .int .i64 (rgtTo l q j) else .int .i64 0
/-- The columns so far: the blocks of the first i. -/
def colV (d : Nat → Nat) (N i : Nat) (j : Nat) : Value := if j < i then .slice (some ⟨d j, 0, none⟩) N N else .slice none 0 0
def rowQ (l : List Star) (i q k : Nat) (j : Nat) : Value := if j < k then .int .i64 (nrmTo l (q + 1) i j) else .int .i64 (nrmTo l q i j)

theorem eq_nil_ll (A : Option Addr) (n c : Nat) (w : World) : (Op.equalIn 10000 65 (.slice A n c) (.slice none 0 0)).run Try.prog w = .ok A.isNone w := by
  show (Op.equalIn (9999 + 1) _ _ _).run _ w = _
  rw [Op.equalIn.eq_def]
  cases A <;> simp [Sem.run_bind, run_underlying Try.underlying65]
@[go_sem ↓ high] theorem eql_nil_ll (A : Option Addr) (n c : Nat) (w : World) : (binOp .eql 65 (.slice A n c) (.slice none 0 0)).run Try.prog w = .ok (.bool A.isNone) w := by
  simp only [binOp]
  simp [Op.equal, Op.maxDepth, eq_nil_ll]
def FitPost (l : List Star) (w : World) (e : Ending) (w' : World) : Prop :=
  ∃ A c, e = .returned (.tuple #[.agg #[.slice A (fitF l).1.1.length c, .int .i64 (fitF l).1.2], .int .i64 (fitF l).2]) ∧ Below w.heap.size w w' ∧ Reads w' w'.heap.size 1 A (fitF l).1.1.length ((fitF l).1.1.map (.int .i64)) ∧ ∀ b o, A = some ⟨b, o, none⟩ → w.heap.size ≤ b

theorem FitPost.mk' {l : List Star} {w w' : World} {e : Ending} {T : List Int} {D E : Int} {A : Option Addr} {c : Nat} (h : fitF l = ((T, D), E)) (he : e = .returned (.tuple #[.agg #[.slice A T.length c, .int .i64 D], .int .i64 E])) (hb : Below w.heap.size w w') (hr : Reads w' w'.heap.size 1 A T.length (T.map (.int .i64))) (hA : ∀ b o, A = some ⟨b, o, none⟩ → w.heap.size ≤ b) : FitPost l w e w' := by
  unfold FitPost
  rw [h]
  exact ⟨A, c, he, hb, hr, hA⟩
/-- Terms of which the first k are divided. -/
def divTo (F : List Int) (G : Int) (k : Nat) : List Int := (F.take k).map (· / G) ++ F.drop k
end Go.Proofs.Ytdidcpealabaiaa

end

section
/- The comparison of lists of numbers. -/
namespace Go.Proofs.Ytdidcpealabaiaa
open Go Go.RowKit

end Go.Proofs.Ytdidcpealabaiaa

end
