import Derived.Test.YtnepjgnnppfibaaQ9
import Derived.Test.YtnepjgnnppfibaaQ3
import Derived.Test.YtnepjgnnppfibaaQ20

section
/- Which zone decides: plain model; a search and a copy of zones. -/
namespace Go.Proofs.Ytnepjgnnppfibaa
open Go Go.RowKit

/-! The plain model. -/
def wideL (l : List (Int × Int)) : Bool := l.any fun p => decide (200 < p.2 - p.1)
/-- No height of the first k ones of zone i leaves the verdict open. -/
def decN (l : List (Int × Int)) (p s : Int) (i k : Nat) : Bool := (List.range k).all fun j => (judgeF (l.set i ((l.getD i (0, 0)).1 + (j : Int), (l.getD i (0, 0)).1 + (j : Int))) p s).1 != 0
def decF (l : List (Int × Int)) (p s : Int) (i : Nat) : Bool := decN l p s i ((l.getD i (0, 0)).2 - (l.getD i (0, 0)).1 + 1).toNat
def deciF (l : List (Int × Int)) (p s : Int) : Int × Int :=
  if judgeErr l p s ≠ 0 then (0, judgeErr l p s) else if (judgeF l p s).1 ≠ 0 then (0, 24) else if wideL l then (0, 8) else
  match (List.range l.length).find? (decF l p s) with | some i => ((i : Int), 0) | none => (0, 12)
theorem decN_succ (l : List (Int × Int)) (p s : Int) (i k : Nat) : decN l p s i (k + 1) = (decN l p s i k && ((judgeF (l.set i ((l.getD i (0, 0)).1 + (k : Int), (l.getD i (0, 0)).1 + (k : Int))) p s).1 != 0)) := by
  unfold decN
  rw [List.range_succ, List.all_append]
  simp
theorem decN_false {l : List (Int × Int)} {p s : Int} {i k m : Nat} (h : decN l p s i k = false) (hk : k ≤ m) : decN l p s i m = false := by
  unfold decN at *
  rw [List.all_eq_false] at *
  obtain ⟨j, hj, h⟩ := h
  exact ⟨j, List.mem_range.2 (by have := List.mem_range.1 hj; omega), h⟩
theorem figErr_same {z : Int} (h : -100000 ≤ z ∧ z ≤ 100000) : figErr (z, z) = 0 := by
  unfold figErr
  have h1 : hgtB z = true := hgtB_iff.2 h
  simp [h1]
theorem set_ok {l : List (Int × Int)} {p s : Int} (hE : judgeErr l p s = 0) {i : Nat} {z : Int} (h : -100000 ≤ z ∧ z ≤ 100000) : judgeErr (l.set i (z, z)) p s = 0 := by
  obtain ⟨h1, h2⟩ := judgeErr_ok hE
  have h3 : enclErr (l.set i (z, z)) = 0 := by
    obtain ⟨n1, n2, -⟩ := encl_ok h1
    unfold enclErr at h1 ⊢
    rw [if_neg (by omega)] at h1
    rw [List.length_set, if_neg (by omega)]
    refine firstErr_ok fun x hx => ?_
    rcases List.mem_or_eq_of_mem_set hx with h | h
    · exact firstErr_zero h1 x h
    · rw [h]; exact figErr_same (by assumption)
  unfold judgeErr
  rw [h3, if_neg (by simp), h2]
theorem deci_err {l : List (Int × Int)} {p s : Int} {E : Int} (hE : judgeErr l p s = E) (h0 : E ≠ 0) : deciF l p s = (0, E) := by unfold deciF; rw [hE, if_pos h0]
theorem deci_open {l : List (Int × Int)} {p s : Int} (hE : judgeErr l p s = 0) (h0 : (judgeF l p s).1 ≠ 0) : deciF l p s = (0, 24) := by unfold deciF; rw [hE, if_neg (by simp), if_pos h0]
theorem deci_wide {l : List (Int × Int)} {p s : Int} (hE : judgeErr l p s = 0) (h0 : (judgeF l p s).1 = 0) (hw : wideL l = true) : deciF l p s = (0, 8) := by unfold deciF; rw [hE, if_neg (by simp), if_neg (by rw [h0]; simp), hw, if_pos rfl]
theorem deci_at {l : List (Int × Int)} {p s : Int} (hE : judgeErr l p s = 0) (h0 : (judgeF l p s).1 = 0) (hw : wideL l = false) {i : Nat} (hi : i < l.length) (hb : ∀ j, j < i → decF l p s j = false) (hd : decF l p s i = true) : deciF l p s = ((i : Int), 0) := by
  have h1 : (List.range l.length).find? (decF l p s) = some i := by
    rw [List.find?_range_eq_some]
    exact ⟨hd, List.mem_range.2 hi, fun j hj => by rw [hb j hj]; rfl⟩
  unfold deciF
  rw [hE, if_neg (by simp), if_neg (by rw [h0]; simp), hw, if_neg (by simp), h1]
theorem deci_none {l : List (Int × Int)} {p s : Int} (hE : judgeErr l p s = 0) (h0 : (judgeF l p s).1 = 0) (hw : wideL l = false) (hb : ∀ j, j < l.length → decF l p s j = false) : deciF l p s = (0, 12) := by
  have h1 : (List.range l.length).find? (decF l p s) = none := by
    rw [List.find?_range_eq_none]
    exact fun j hj => by rw [hb j hj]; rfl
  unfold deciF
  rw [hE, if_neg (by simp), if_neg (by rw [h0]; simp), hw, if_neg (by simp), h1]

/-! A block that holds zones. -/
theorem cells2_setp : ∀ (l : List (Int × Int)) (i : Nat) (a b : Int), ((cells2 l).set (i * 2) (.int .i64 a)).set (i * 2 + 1) (.int .i64 b) = cells2 (l.set i (a, b))
  | [], i, a, b => by simp [cells2]
  | p :: l, 0, a, b => by simp [cells2]
  | p :: l, i + 1, a, b => by
    have ih := cells2_setp l i a b
    have e1 : (i + 1) * 2 = i * 2 + 1 + 1 := by omega
    rw [e1]
    show Value.int .i64 p.1 :: Value.int .i64 p.2 :: ((cells2 l).set (i * 2) _).set (i * 2 + 1) _ = cells2 (p :: l.set i (a, b))
    rw [ih]
    rfl
section
variable {w : World} {g n : Nat} {l : List (Int × Int)} {ext : List Value}
def BlkZ (w : World) (g : Nat) (l : List (Int × Int)) (ext : List Value) : Prop := Blk w g 50 (cells2 l ++ ext).toArray
theorem BlkZ.cell (h : BlkZ w g l ext) {j : Nat} (hj : j < l.length) : ∃ a b, w.cell? ⟨g, j * 2, none⟩ = some (.int .i64 a) ∧ w.cell? ⟨g, j * 2 + 1, none⟩ = some (.int .i64 b) := by
  obtain ⟨h1, h2⟩ := cells2_get l j hj
  have e1 := (Blk.cell h (j * 2)).trans (by rw [List.getElem?_toArray, List.getElem?_append_left (List.getElem?_eq_some_iff.1 h1).1])
  have e2 := (Blk.cell h (j * 2 + 1)).trans (by rw [List.getElem?_toArray, List.getElem?_append_left (List.getElem?_eq_some_iff.1 h2).1])
  exact ⟨_, _, e1.trans h1, e2.trans h2⟩
theorem BlkZ.set (h : BlkZ w g l ext) {j : Nat} (hj : j < l.length) (a b : Int) : BlkZ ((w.setCell ⟨g, j * 2, none⟩ (.int .i64 a)).setCell ⟨g, j * 2 + 1, none⟩ (.int .i64 b)) g (l.set j (a, b)) ext := by
  have h1 := Blk.set_ (Blk.set_ h (j * 2) (.int .i64 a)) (j * 2 + 1) (.int .i64 b)
  unfold BlkZ
  rw [List.setIfInBounds_toArray, List.setIfInBounds_toArray, List.set_append_left _ _ (by rw [cells2_length]; omega), List.set_append_left _ _ (by rw [List.length_set, cells2_length]; omega), cells2_setp] at h1
  exact h1
theorem BlkZ.reads (h : BlkZ w g l ext) (hl : l.length = n) : Reads w w.heap.size 2 (some ⟨g, 0, none⟩) n (cells2 l) :=
  ⟨by rw [cells2_length, hl], fun _ => ⟨g, 0, rfl, Blk.lt h, fun j u hu => by
    rw [Nat.zero_add, Blk.cell h j]
    have := (List.getElem?_eq_some_iff.1 hu).1
    simp [List.getElem?_append_left this, hu]⟩⟩
end
theorem own_blockZ {w : World} {base n c : Nat} {A : Option Addr} {l : List (Int × Int)} (h : w.ownsRow base 50 2 (.slice A n c) n (cells2 l)) (hn : 0 < n) :
    ∃ g ext, A = some ⟨g, 0, none⟩ ∧ base ≤ g ∧ n ≤ c ∧ BlkZ w g l ext := by
  rcases h.2 with ⟨_, e⟩ | ⟨g, cap, cur, hv, hb, hh, hc, -, hs, ht⟩
  · omega
  · obtain ⟨rfl, -, rfl⟩ : A = some ⟨g, 0, none⟩ ∧ n = n ∧ c = cap := by simpa using hv
    refine ⟨g, cur.toList.drop (n * 2), rfl, hb, hc, ?_⟩
    unfold BlkZ Blk
    rw [hh, ← ht, List.take_append_drop, Array.toArray_toList]

/-! A copy and a search of zones. -/
theorem eq_nil_rng6 (A : Option Addr) (n c : Nat) (w : World) : (Op.equalIn 10000 36 (.slice A n c) (.slice none 0 0)).run Try.prog w = .ok A.isNone w := by
  show (Op.equalIn (9999 + 1) _ _ _).run _ w = _
  rw [Op.equalIn.eq_def]
  cases A <;> simp [Sem.run_bind, run_underlying Try.underlying36]
@[go_sem ↓ high] theorem eql_nil_rng6 (A : Option Addr) (n c : Nat) (w : World) : (binOp .eql 36 (.slice A n c) (.slice none 0 0)).run Try.prog w = .ok (.bool A.isNone) w := by
  simp only [binOp]
  simp [Op.equal, Op.maxDepth, eq_nil_rng6]
set_option maxRecDepth 100000 in
theorem clonerng6_any (A : Option Addr) (n c N : Nat) (l : List (Int × Int)) (w : World) (hx : Reads w N 2 A n (cells2 l)) (hN : N ≤ w.heap.size) (hn : n ≤ 100000) :
    Calls Try.prog 125 #[.slice A n c] w (CopyPost w 50 2 n (cells2 l)) := by
  cases A with
  | none =>
    have hn0 : n = 0 := by
      rcases Nat.eq_zero_or_pos n with h | h
      · exact h
      · obtain ⟨_, _, e, _⟩ := hx.2 h
        cases e
    subst hn0
    have hl : cells2 l = [] := List.length_eq_zero_iff.1 (by simpa using hx.1)
    have HL := Lib.hid hl
    clear hx hl
    go_enter Try.func125, Try.ntmps125
    go_wp2
    go_ret
    exact ⟨none, 0, rfl, Below.refl _ _, by rw [HL.out]; exact Reads.none_, by rw [HL.out]; exact World.ownsRow_nil _ _ _ _⟩
  | some a =>
    obtain ⟨v', W2, hrun, ho, hb⟩ := copy_run (P := Try.prog) 36 36 50 _ 2 16 Try.underlying36 info_range rfl (by omega) w N (some a) n c (cells2 l) hx hN (one_cells2 l) (by unfold maxLen; omega) (by omega)
    have HRUN := Lib.hid hrun
    have HO := Lib.hid ho
    have HB := Lib.hid hb
    clear hrun ho hb hx
    go_enter Try.func125, Try.ntmps125
    go_wp2_with (first | (at_builtin; refine wpList_app _ W2 v' rfl _ _ _ rfl _ _ rfl rfl HRUN.out ?_))
    go_ret
    exact CopyPost.of HO.out HB.out
theorem dec1_is (a b : Int) (t : Bool) (ht : decide (200 < b - a) = t) (h1 : -100000 ≤ a) (h2 : a ≤ b) (h3 : b ≤ 100000) (w : World) :
    Calls Try.prog 94 #[.agg #[.int .i64 a, .int .i64 b]] w fun e w' => e = .returned (.bool t) ∧ Below w.heap.size w w' := by
  have e1 := IntWalk.i64_in (b - a) ⟨by omega, by omega⟩
  have HT := Lib.hid ht
  clear ht
  go_enter Try.func94, Try.ntmps94
  go_wp2
  go_ret
  refine ⟨?_, by repeat' (first | exact Below.refl _ _ | exact HB0.out | refine below_drewN ?_ _ | refine Below.drew ?_ | refine Below.alloc ?_ (by first | omega | (simp; done) | (simp; omega) | (simp [World.setCell]; omega)) _ | refine Below.setCell ?_ (by first | omega | (simp; done) | (simp; omega)) _ | assumption)⟩
  show Ending.returned (.bool (decide (200 < b - a))) = _
  rw [HT.out]
theorem wide_take {l : List (Int × Int)} {k : Nat} {a b : Int} (hz : l[k]? = some (a, b)) (h : (l.take k).any (fun p => decide (200 < p.2 - p.1)) = false) (hp : decide (200 < b - a) = false) : (l.take (k + 1)).any (fun p => decide (200 < p.2 - p.1)) = false := by
  rw [List.take_add_one, hz]
  simp only [List.any_append, h, Bool.false_or, Option.toList_some, List.any_cons, List.any_nil, Bool.or_false]
  exact hp
set_option maxRecDepth 100000 in
theorem indexrng6_is (A : Option Addr) (n c : Nat) (l : List (Int × Int)) (w : World) (hx : Reads w w.heap.size 2 A n (cells2 l)) (hn : n ≤ 1000) (hr : ∀ p ∈ l, -100000 ≤ p.1 ∧ p.1 ≤ p.2 ∧ p.2 ≤ 100000) :
    Calls Try.prog 124 #[.slice A n c, .func (.func 94) #[] #[]] w fun e w' => (∃ r : Int, e = .returned (.int .i64 r) ∧ (0 ≤ r ↔ wideL l = true)) ∧ Below w.heap.size w w' := by
  have hxl := hx.len2
  have HX := Lib.hid hx
  have HXL := Lib.hid hxl
  have HR := Lib.hid hr
  have hent : ∀ (args : Array Value) (w : World), (callFunc 94 args).run Try.prog w = .ok (.enter 94 args) w := enters_of Try.func94 (by kernel_rfl) rfl
  clear hx hxl hr
  go_enter Try.func124, Try.ntmps124
  go_wp2
  go_loopw [8] (fun i wr => ∃ q : Nat, q ≤ n ∧ i = .int .i64 q ∧ (l.take q).any (fun p => decide (200 < p.2 - p.1)) = false ∧ Below w.heap.size w wr) (fun i _ => n - (intOf i).toNat)
  case atStart => exact ⟨0, by omega, rfl, by simp, Below.refl _ _⟩
  case round =>
    obtain ⟨q, hq, rfl, ht, hb⟩ := hrel
    have HT := Lib.hid ht
    have HB := Lib.hid hb
    clear ht hb
    by_cases hlt : q < n
    · obtain ⟨xb, xo, ⟨a, b⟩, rfl, hxb, hz, c0, c1⟩ := (HX.out.below HB.out).pair hlt
      simp only at c0 c1
      have hab := HR.out _ (List.mem_of_getElem? hz)
      simp only at hab
      have HZ := Lib.hid hz
      clear hz
      cases hp : decide (200 < b - a) with
      | false =>
        have HP := Lib.hid hp
        clear hp
        go_wp2_with fail
        refine (dec1_is a b false HP.out (by omega) (by omega) (by omega) _).mono ?_
        rintro e w' ⟨rfl, hb⟩
        have HB' := Lib.hid (HB.out.trans (hb.mono HB.out.size))
        clear hb
        go_wp2
        go_roundw
        case rel => exact ⟨q + 1, by omega, by go_num, wide_take HZ.out HT.out HP.out, HB'.out⟩
        case measure => simp [intOf]; omega
      | true =>
        have HP := Lib.hid hp
        clear hp
        go_wp2_with fail
        refine (dec1_is a b true HP.out (by omega) (by omega) (by omega) _).mono ?_
        rintro e w' ⟨rfl, hb⟩
        have HB' := Lib.hid (HB.out.trans (hb.mono HB.out.size))
        clear hb
        go_wp2
        go_ret
        refine ⟨⟨_, rfl, ?_⟩, HB'.out⟩
        have : wideL l = true := List.any_eq_true.2 ⟨_, List.mem_of_getElem? HZ.out, HP.out⟩
        simp [this]
    · go_wp2
      go_ret
      refine ⟨⟨_, rfl, ?_⟩, HB.out⟩
      have ht := HT.out
      rw [List.take_of_length_le (by rw [HXL.out]; omega)] at ht
      unfold wideL
      rw [ht]
      simp
theorem containsrng6_is (A : Option Addr) (n c : Nat) (l : List (Int × Int)) (t : Bool) (ht : wideL l = t) (w : World) (hx : Reads w w.heap.size 2 A n (cells2 l)) (hn : n ≤ 1000) (hr : ∀ p ∈ l, -100000 ≤ p.1 ∧ p.1 ≤ p.2 ∧ p.2 ≤ 100000) :
    Calls Try.prog 93 #[.slice A n c, .func (.func 94) #[] #[]] w fun e w' => e = .returned (.bool t) ∧ Below w.heap.size w w' := by
  have HX := Lib.hid hx
  have HT := Lib.hid ht
  have HI := Lib.hid (indexrng6_is A n c l w hx hn hr)
  clear hx ht hr
  go_enter Try.func93, Try.ntmps93
  go_wp2_with fail
  refine HI.out.mono ?_
  rintro e w1 ⟨⟨r, rfl, hr⟩, hb⟩
  have HR := Lib.hid hr
  have HB := Lib.hid hb
  clear hr hb
  go_wp2
  go_ret
  refine ⟨?_, HB.out⟩
  have := HR.out
  rw [HT.out] at this
  cases t <;> simp_all
end Go.Proofs.Ytnepjgnnppfibaa

end

section
/- Whether a zone's exact height decides. -/
namespace Go.Proofs.Ytnepjgnnppfibaa
open Go Go.RowKit

set_option maxRecDepth 100000 in
set_option maxHeartbeats 4000000 in
theorem decides_is (A : Option Addr) (n c : Nat) (l : List (Int × Int)) (p s : Int) (hE : judgeErr l p s = 0) (i : Nat) (hi : i < n) (t : Bool) (ht : decF l p s i = t) (w : World) (hx : Reads w w.heap.size 2 A n (cells2 l)) :
    Calls Try.prog 95 #[.agg #[.int .i64 p, .int .i64 s], .slice A n c, .int .i64 (i : Int)] w fun e w' => e = .returned (.bool t) ∧ Below w.heap.size w w' := by
  have hl := hx.len2
  obtain ⟨hE1, hE2⟩ := judgeErr_ok hE
  obtain ⟨n1, n2, hr⟩ := encl_ok hE1
  rw [hl] at n1 n2
  obtain ⟨xb, xo, ⟨lo, hh⟩, rfl, hxb, hpi, ci0, ci1⟩ := hx.pair hi
  have hlh := hr _ (List.mem_of_getElem? hpi)
  have hg : l.getD i (0, 0) = (lo, hh) := getD_of hpi
  simp only at ci0 ci1 hlh
  have HG := Lib.hid hg
  have HX := Lib.hid hx
  have HL := Lib.hid hl
  have HE := Lib.hid hE
  have HT := Lib.hid (show decN l p s i (hh - lo + 1).toNat = t by rw [← ht]; unfold decF; rw [hg])
  clear hE hl hr hE1 hE2 hg ht hpi
  go_enter Try.func95, Try.ntmps95
  have R0_0 := Lib.hid hx
  clear hx
  go_wp2_with fail
  generalize hwn : (w.alloc (.cells #[.int .i64 (p), .int .i64 (s)] 125)) = w1
  have hbn : Below w.heap.size w w1 := by rw [← hwn]; repeat' (first | exact Below.refl _ _ | refine below_drewN ?_ _ | refine Below.drew ?_ | refine Below.alloc ?_ (by first | omega | (simp; done) | (simp; omega) | (simp [World.setCell]; omega)) _ | refine Below.setCell ?_ (by first | omega | (simp; done) | (simp; omega)) _)
  have HB1 := Lib.hid (show Below w.heap.size w w1 from hbn)
  have K0_1 := Lib.hid (show Blk w1 (w.heap.size) 125 #[.int .i64 (p), .int .i64 (s)] by rw [← hwn]; repeat' (first | exact Blk.at_ _ (by first | rfl | (simp; done) | (simp; omega)) _ _ | refine Blk.drewN ?_ _ | refine Blk.drew ?_ | refine Blk.alloc ?_ _ | refine Blk.far ?_ (by first | omega | (simp; done) | (simp; omega)) _ | assumption))
  have R0_1 := Lib.hid ((R0_0.out.below hbn).more hbn.size)
  have HN1 := Lib.hid hbn
  have hz1 := hbn.size
  clear hwn hbn R0_0
  have l0_1 : w.heap.size < w1.heap.size := K0_1.out.lt
  have z0_0_1 : w1.cell? ⟨w.heap.size, 0, none⟩ = some (.int .i64 (p)) := K0_1.out.cell 0
  have z0_1_1 : w1.cell? ⟨w.heap.size, 1, none⟩ = some (.int .i64 (s)) := K0_1.out.cell 1
  have KB := K0_1
  have hz1 : w.heap.size < w1.heap.size := l0_1
  have HA1 := Lib.hid (show Below w1.heap.size w1 w1 from Below.refl _ _)
  refine (clonerng6_any (some ⟨xb, xo, none⟩) n c _ l _ R0_1.out (Nat.le_refl _) (by omega)).mono ?_
  rintro e w2 ⟨A2, c2, rfl, hb, hr2, ho2⟩
  have HB2 := Lib.hid (show Below w.heap.size w w2 from step_below hb (by repeat' (first | exact Below.refl _ _ | exact HB1.out | refine below_drewN ?_ _ | refine Below.drew ?_ | refine Below.alloc ?_ (by first | omega | (simp; done) | (simp; omega) | (simp [World.setCell]; omega)) _ | refine Below.setCell ?_ (by first | omega | (simp; done) | (simp; omega)) _ | assumption)))
  have K0_2 := Lib.hid (step_blk hb (show Blk _ (w.heap.size) 125 #[.int .i64 (p), .int .i64 (s)] by repeat' (first | exact K0_1.out | exact Blk.at_ _ (by first | rfl | (simp; done) | (simp; omega)) _ _ | refine Blk.drewN ?_ _ | refine Blk.drew ?_ | refine Blk.alloc ?_ _ | refine Blk.far ?_ (by first | omega | (simp; done) | (simp; omega)) _ | assumption)))
  have hL2 := Lib.hid (show Below w1.heap.size w1 _ from reads_mid hb (by repeat' (first | exact Below.refl _ _ | refine below_drewN ?_ _ | refine Below.drew ?_ | refine Below.alloc ?_ (by first | omega | (simp; done) | (simp; omega) | (simp [World.setCell]; omega)) _ | refine Below.setCell ?_ (by first | omega | (simp; done) | (simp; omega)) _)))
  have R0_2 := Lib.hid (reads_lay hb hL2.out R0_1.out)
  clear hL2 R0_1
  have HA2 := Lib.hid (step_below hb HA1.out)
  clear HA1
  have hz2 := hb.size
  try simp only [World.size_alloc, World.drewN, World.drew] at hz2
  clear hb K0_1 z0_0_1 z0_1_1 l0_1
  have l0_2 : w.heap.size < w2.heap.size := K0_2.out.lt
  have z0_0_2 : w2.cell? ⟨w.heap.size, 0, none⟩ = some (.int .i64 (p)) := K0_2.out.cell 0
  have z0_1_2 : w2.cell? ⟨w.heap.size, 1, none⟩ = some (.int .i64 (s)) := K0_2.out.cell 1
  obtain ⟨g, ext, rfl, hgb, hcn, hbz⟩ := own_blockZ ho2 (by omega)
  obtain ⟨yb, yo, ⟨lo2, hh2⟩, hA2, hyb, hpi2, cj0, cj1⟩ := R0_2.out.pair hi
  obtain ⟨rfl, rfl⟩ : xb = yb ∧ xo = yo := by simpa using hA2
  obtain ⟨rfl, rfl⟩ : lo = lo2 ∧ hh = hh2 := by
    have h1 := HG.out
    rw [getD_of hpi2] at h1
    have := Prod.mk.inj h1
    exact ⟨this.1.symm, this.2.symm⟩
  simp only at cj0 cj1
  have HBZ := Lib.hid hbz
  have HA := HA2
  clear hr2 ho2 hbz hA2 hpi2 ci0 ci1
  go_wp2
  go_loopw [8] (fun v wr => ∃ (k : Nat) (z : Int) (l' : List (Int × Int)), v = .int .i64 z ∧ z = lo + (k : Int) ∧ z ≤ hh + 1 ∧ decN l p s i k = true ∧ Below w1.heap.size w1 wr ∧ BlkZ wr g l' ext ∧ l'.length = n ∧ ∀ q, l'.set i q = l.set i q) (fun v _ => (hh + 1 - intOf v).toNat)
  case atStart => exact ⟨0, lo, l, rfl, by omega, by omega, by unfold decN; rfl, HA.out, HBZ.out, HL.out, fun _ => rfl⟩
  case round =>
    clear cj0 cj1
    obtain ⟨k, z, l', rfl, hz, hzh, hdn, hb, hbz, hll, hls⟩ := hrel
    obtain ⟨w3, hnm⟩ : ∃ z : World, z = wr := ⟨_, rfl⟩
    subst hnm
    have HBW := Lib.hid hb
    have HBZ3 := Lib.hid hbz
    have HDN := Lib.hid hdn
    have HLS := Lib.hid hls
    have hb' := HB1.out.trans (hb.mono HB1.out.size)
    have k0 := Blk.below KB.out hb KB.out.lt
    obtain ⟨yb, yo, ⟨lo2, hh2⟩, hA2, hyb3, hpi2, cj0, cj1⟩ := (HX.out.below hb').pair hi
    obtain ⟨rfl, rfl⟩ : xb = yb ∧ xo = yo := by simpa using hA2
    obtain ⟨rfl, rfl⟩ : lo = lo2 ∧ hh = hh2 := by
      have h1 := HG.out
      rw [getD_of hpi2] at h1
      have := Prod.mk.inj h1
      exact ⟨this.1.symm, this.2.symm⟩
    simp only at cj0 cj1
    obtain ⟨a, b, o0, o1⟩ := hbz.cell (show i < l'.length by omega)
    have of0 := Blk.frozen hbz (i * 2)
    have of1 := Blk.frozen hbz (i * 2 + 1)
    have hgne : ¬ g = w.heap.size := by omega
    have hgne2 : ¬ w.heap.size = g := by omega
    have hz3 : -100000 ≤ z ∧ z ≤ 100001 := by omega
    have HZ := Lib.hid hz
    clear hb hbz hdn hls hA2 hpi2 hz
    have HB3 := Lib.hid hb'
    have K0_3 := Lib.hid (show Blk w3 (w.heap.size) 125 #[.int .i64 (p), .int .i64 (s)] from k0)
    clear hb' k0
    have l0_3 : w.heap.size < w3.heap.size := K0_3.out.lt
    have z0_0_3 : w3.cell? ⟨w.heap.size, 0, none⟩ = some (.int .i64 (p)) := K0_3.out.cell 0
    have z0_1_3 : w3.cell? ⟨w.heap.size, 1, none⟩ = some (.int .i64 (s)) := K0_3.out.cell 1
    by_cases hle : z ≤ hh
    rotate_left
    · have hd1 : decide (z ≤ hh) = false := by simpa using hle
      have HTT := Lib.hid (show true = t by rw [← HT.out, show (hh - lo + 1).toNat = k by have := HZ.out; omega]; exact HDN.out.symm)
      go_wp2
      go_ret
      exact ⟨congrArg (fun b => Ending.returned (.bool b)) HTT.out, HB3.out⟩
    have hd1 : decide (z ≤ hh) = true := by simpa using hle
    go_wp2_with fail
    obtain ⟨w4, hw4⟩ : ∃ w4, (w3.setCell ⟨g, i * 2, none⟩ (.int .i64 z)).setCell ⟨g, i * 2 + 1, none⟩ (.int .i64 z) = w4 := ⟨_, rfl⟩
    rw [hw4]
    have hbz4 : BlkZ w4 g (l.set i (z, z)) ext := by rw [← hw4, ← HLS.out]; exact BlkZ.set HBZ3.out (by omega) z z
    have hb4 : Below w1.heap.size w1 w4 := by rw [← hw4]; exact (HBW.out.setCell (p := ⟨g, i * 2, none⟩) hgb _).setCell (p := ⟨g, i * 2 + 1, none⟩) hgb _
    have hb' := HB1.out.trans (hb4.mono HB1.out.size)
    have k0 := Blk.below KB.out hb4 KB.out.lt
    have hr4 := hbz4.reads (n := n) (by rw [List.length_set]; exact HL.out)
    obtain ⟨⟨v, i0, k0'⟩, hv⟩ : ∃ V, judgeF (l.set i (z, z)) p s = V := ⟨_, rfl⟩
    have HV := Lib.hid hv
    have HBZ4 := Lib.hid hbz4
    have HB4' := Lib.hid hb4
    clear hw4 hbz4 hb4 hv
    have HB4 := Lib.hid hb'
    have K0_4 := Lib.hid (show Blk w4 (w.heap.size) 125 #[.int .i64 (p), .int .i64 (s)] from k0)
    clear hb' k0
    have l0_4 : w.heap.size < w4.heap.size := K0_4.out.lt
    have z0_0_4 : w4.cell? ⟨w.heap.size, 0, none⟩ = some (.int .i64 (p)) := K0_4.out.cell 0
    have z0_1_4 : w4.cell? ⟨w.heap.size, 1, none⟩ = some (.int .i64 (s)) := K0_4.out.cell 1
    have R0_4 := Lib.hid hr4
    clear hr4
    have HA4 := Lib.hid (show Below w4.heap.size w4 w4 from Below.refl _ _)
    refine (judge_is (some ⟨g, 0, none⟩) n c2 (l.set i (z, z)) p s (set_ok HE.out (by omega)) v i0 k0' HV.out w4 R0_4.out).mono ?_
    rintro e w5 ⟨rfl, hb⟩
    have HB5 := Lib.hid (show Below w.heap.size w w5 from step_below hb (by repeat' (first | exact Below.refl _ _ | exact HB4.out | refine below_drewN ?_ _ | refine Below.drew ?_ | refine Below.alloc ?_ (by first | omega | (simp; done) | (simp; omega) | (simp [World.setCell]; omega)) _ | refine Below.setCell ?_ (by first | omega | (simp; done) | (simp; omega)) _ | assumption)))
    have K0_5 := Lib.hid (step_blk hb (show Blk _ (w.heap.size) 125 #[.int .i64 (p), .int .i64 (s)] by repeat' (first | exact K0_4.out | exact Blk.at_ _ (by first | rfl | (simp; done) | (simp; omega)) _ _ | refine Blk.drewN ?_ _ | refine Blk.drew ?_ | refine Blk.alloc ?_ _ | refine Blk.far ?_ (by first | omega | (simp; done) | (simp; omega)) _ | assumption)))
    have hL5 := Lib.hid (show Below w4.heap.size w4 _ from reads_mid hb (by repeat' (first | exact Below.refl _ _ | refine below_drewN ?_ _ | refine Below.drew ?_ | refine Below.alloc ?_ (by first | omega | (simp; done) | (simp; omega) | (simp [World.setCell]; omega)) _ | refine Below.setCell ?_ (by first | omega | (simp; done) | (simp; omega)) _)))
    have R0_5 := Lib.hid (reads_lay hb hL5.out R0_4.out)
    clear hL5 R0_4
    have HA5 := Lib.hid (step_below hb HA4.out)
    clear HA4
    have hz5 := hb.size
    try simp only [World.size_alloc, World.drewN, World.drew] at hz5
    clear hb K0_4 z0_0_4 z0_1_4 l0_4
    have l0_5 : w.heap.size < w5.heap.size := K0_5.out.lt
    have z0_0_5 : w5.cell? ⟨w.heap.size, 0, none⟩ = some (.int .i64 (p)) := K0_5.out.cell 0
    have z0_1_5 : w5.cell? ⟨w.heap.size, 1, none⟩ = some (.int .i64 (s)) := K0_5.out.cell 1
    have hsz : g < w4.heap.size := HBZ4.out.lt
    have HBZ5 := Lib.hid (Blk.below HBZ4.out HA5.out hsz)
    have HB15 := Lib.hid (HB4'.out.trans (HA5.out.mono HB4'.out.size))
    clear R0_5
    have HA5 := Lib.hid (show Below w5.heap.size w5 w5 from Below.refl _ _)
    have hdk : decN l p s i (k + 1) = (v != 0) := by
      rw [decN_succ, HDN.out, HG.out, ← HZ.out, HV.out]
      rfl
    by_cases hv0 : v = 0
    · have hv1 : (v == 0) = true := by simpa using hv0
      have HTT := Lib.hid (show false = t by
        rw [← HT.out]
        exact (decN_false (by rw [hdk, hv0]; rfl) (show k + 1 ≤ (hh - lo + 1).toNat by have := HZ.out; omega)).symm)
      clear hdk hv0
      go_wp2
      generalize hwn : (w5.alloc (.cells #[.int .i64 ((i0 : Int)), .int .i64 ((k0' : Int))] 39)) = w6
      have hbn : Below w5.heap.size w5 w6 := by rw [← hwn]; repeat' (first | exact Below.refl _ _ | refine below_drewN ?_ _ | refine Below.drew ?_ | refine Below.alloc ?_ (by first | omega | (simp; done) | (simp; omega) | (simp [World.setCell]; omega)) _ | refine Below.setCell ?_ (by first | omega | (simp; done) | (simp; omega)) _)
      have HB6 := Lib.hid (show Below w.heap.size w w6 from HB5.out.trans (hbn.mono HB5.out.size))
      have K0_6 := Lib.hid (step_blk hbn K0_5.out)
      have K1_6 := Lib.hid (show Blk w6 (w5.heap.size) 39 #[.int .i64 ((i0 : Int)), .int .i64 ((k0' : Int))] by rw [← hwn]; repeat' (first | exact Blk.at_ _ (by first | rfl | (simp; done) | (simp; omega)) _ _ | refine Blk.drewN ?_ _ | refine Blk.drew ?_ | refine Blk.alloc ?_ _ | refine Blk.far ?_ (by first | omega | (simp; done) | (simp; omega)) _ | assumption))
      have HA6 := Lib.hid (step_below hbn HA5.out)
      clear HA5
      have HN6 := Lib.hid hbn
      have hz6 := hbn.size
      clear hwn hbn K0_5 l0_5 z0_0_5 z0_1_5
      have l0_6 : w.heap.size < w6.heap.size := K0_6.out.lt
      have z0_0_6 : w6.cell? ⟨w.heap.size, 0, none⟩ = some (.int .i64 (p)) := K0_6.out.cell 0
      have z0_1_6 : w6.cell? ⟨w.heap.size, 1, none⟩ = some (.int .i64 (s)) := K0_6.out.cell 1
      have l1_6 : w5.heap.size < w6.heap.size := K1_6.out.lt
      have z1_0_6 : w6.cell? ⟨w5.heap.size, 0, none⟩ = some (.int .i64 ((i0 : Int))) := K1_6.out.cell 0
      have z1_1_6 : w6.cell? ⟨w5.heap.size, 1, none⟩ = some (.int .i64 ((k0' : Int))) := K1_6.out.cell 1
      go_ret
      exact ⟨congrArg (fun b => Ending.returned (.bool b)) HTT.out, HB6.out⟩
    have hv1 : (v == 0) = false := by simpa using hv0
    have HDK := Lib.hid (show decN l p s i (k + 1) = true by rw [hdk]; simpa using hv0)
    clear hdk hv0
    have e1 := IntWalk.i64_in (z + 1) ⟨by omega, by omega⟩
    go_wp2
    generalize hwn : (w5.alloc (.cells #[.int .i64 ((i0 : Int)), .int .i64 ((k0' : Int))] 39)) = w6
    have hbn : Below w5.heap.size w5 w6 := by rw [← hwn]; repeat' (first | exact Below.refl _ _ | refine below_drewN ?_ _ | refine Below.drew ?_ | refine Below.alloc ?_ (by first | omega | (simp; done) | (simp; omega) | (simp [World.setCell]; omega)) _ | refine Below.setCell ?_ (by first | omega | (simp; done) | (simp; omega)) _)
    have HB6 := Lib.hid (show Below w.heap.size w w6 from HB5.out.trans (hbn.mono HB5.out.size))
    have K0_6 := Lib.hid (step_blk hbn K0_5.out)
    have K1_6 := Lib.hid (show Blk w6 (w5.heap.size) 39 #[.int .i64 ((i0 : Int)), .int .i64 ((k0' : Int))] by rw [← hwn]; repeat' (first | exact Blk.at_ _ (by first | rfl | (simp; done) | (simp; omega)) _ _ | refine Blk.drewN ?_ _ | refine Blk.drew ?_ | refine Blk.alloc ?_ _ | refine Blk.far ?_ (by first | omega | (simp; done) | (simp; omega)) _ | assumption))
    have HA6 := Lib.hid (step_below hbn HA5.out)
    clear HA5
    have HN6 := Lib.hid hbn
    have hz6 := hbn.size
    clear hwn hbn K0_5 l0_5 z0_0_5 z0_1_5
    have l0_6 : w.heap.size < w6.heap.size := K0_6.out.lt
    have z0_0_6 : w6.cell? ⟨w.heap.size, 0, none⟩ = some (.int .i64 (p)) := K0_6.out.cell 0
    have z0_1_6 : w6.cell? ⟨w.heap.size, 1, none⟩ = some (.int .i64 (s)) := K0_6.out.cell 1
    have l1_6 : w5.heap.size < w6.heap.size := K1_6.out.lt
    have z1_0_6 : w6.cell? ⟨w5.heap.size, 0, none⟩ = some (.int .i64 ((i0 : Int))) := K1_6.out.cell 0
    have z1_1_6 : w6.cell? ⟨w5.heap.size, 1, none⟩ = some (.int .i64 ((k0' : Int))) := K1_6.out.cell 1
    have hl5 : g < w5.heap.size := Blk.lt HBZ5.out
    have HBZ6 := Lib.hid (Blk.below HBZ5.out HA6.out hl5)
    have HB16 := Lib.hid (HB15.out.trans (HA6.out.mono HB15.out.size))
    go_roundw
    case rel => exact ⟨k + 1, z + 1, l.set i (z, z), rfl, by have := HZ.out; push_cast; omega, by omega, HDK.out, HB16.out, HBZ6.out, by rw [List.length_set]; exact HL.out, fun q => by rw [List.set_set]⟩
    case measure => simp [intOf]; omega
end Go.Proofs.Ytnepjgnnppfibaa

end

section
/- The contract of the check of a pair that refuses. -/
namespace Go.Proofs.Ytnepjgnnppfibaa
open Go Go.RowKit

end Go.Proofs.Ytnepjgnnppfibaa

end

section
/- The walk of the statement on judgements of enclosures. -/
namespace Go.Proofs.Ytnepjgnnppfibaa
open Go Go.RowKit

def PfR (l : List (Int × Int)) (n ci : Nat) (i : Nat) (x : Pick2) (w : World) : Prop := i = ci → Reads w w.heap.size 2 x.1.1 n (cells2 l)
theorem PfR.stb {l : List (Int × Int)} {n ci : Nat} : Stb (PfR l n ci) := fun _ _ _ _ hb h e => ((h e).below hb).more hb.size

end Go.Proofs.Ytnepjgnnppfibaa

end
