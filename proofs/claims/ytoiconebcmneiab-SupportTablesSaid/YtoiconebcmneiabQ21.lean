import Derived.Test.YtoiconebcmneiabQ20

section
/- The walk of the statement on tables. -/
namespace Go.Proofs.Ytoiconebcmneiab
open Go.RowKit

@[go_sem] theorem held_rangeT : Try.prog.stoodInHeld 97 = false := by kernel_rfl
@[go_sem] theorem guard_rangeT : Try.prog.eqGuardType Try.prog.depth 97 = false := by kernel_rfl
theorem eq_rangeT (x y : Int) (w : World) : (Op.equalIn 10000 97 (.agg #[.int .i64 x, .int .i64 y]) (.agg #[.int .i64 x, .int .i64 y])).run Try.prog w = .ok true w := by
  simp [go_sem]
@[go_sem ↓ high] theorem neq_rangeT (x y : Int) (w : World) : (binOp .neq 97 (.agg #[.int .i64 x, .int .i64 y]) (.agg #[.int .i64 x, .int .i64 y])).run Try.prog w = .ok (.bool false) w := by
  rw [run_neq_struct, eq_rangeT]; rfl
theorem ranges_same (A B : Option Addr) (ca cb n : Nat) (l : List (Int × Int)) (w : World) (N : Nat) (hx : Reads w N 2 A n (cells2 l)) (hy : Reads w N 2 B n (cells2 l)) (h1 : n ≤ 9223372036854775807) :
    Calls Try.prog 18 #[.slice A n ca, .slice B n cb] w fun e w' => e = .returned (.bool true) ∧ ∃ q, w' = w.drewN q := by
  have hb : ((n : Int) != (n : Int)) = false := by simp
  have HX := Lib.hid hx
  have HY := Lib.hid hy
  clear hx hy
  go_enter Try.func18, Try.ntmps18
  go_wp2
  go_loopw [5] (fun i wr => ∃ k : Nat, k ≤ n ∧ i = .int .i64 k ∧ ∃ q, wr = w.drewN q) (fun i _ => n - (intOf i).toNat)
  case atStart => exact ⟨0, by omega, rfl, 0, rfl⟩
  case round =>
    obtain ⟨k, hk, rfl, q, rfl⟩ := hrel
    by_cases hlt : k < n
    · obtain ⟨xb, xo, p, rfl, _, hp, c0, c1⟩ := HX.out.pair hlt
      obtain ⟨yb, yo, r, rfl, _, hr, d0, d1⟩ := HY.out.pair hlt
      obtain rfl := Option.some.inj (hp.symm.trans hr)
      clear hp hr
      go_wp2
      go_quiet (fail)
      go_wp2
      go_roundw
      case rel => exact ⟨k + 1, by omega, by go_num, _, rfl⟩
      case measure => simp [intOf]; omega
    · go_wp2
      go_ret
      exact ⟨rfl, _, rfl⟩

theorem headLen_same {t t' : List TRow} (h : ∀ r ∈ t, r.xs.length = r.n) (h' : ∀ r ∈ t', r.xs.length = r.n) (he : t.map TRow.xs = t'.map TRow.xs) : headLen t = headLen t' := by
  have key : ∀ u : List TRow, (∀ r ∈ u, r.xs.length = r.n) → headLen u = (((u.map TRow.xs)[0]?).map List.length).getD 0 := fun u hu => by
    unfold headLen
    rw [List.getElem?_map]
    cases h0 : u[0]? with
    | none => rfl
    | some r => simp [hu r (List.mem_of_getElem? h0)]
  rw [key t h, key t' h', he]
theorem deflErr_same {t t' : List TRow} {np : Nat} {wt : Int} {ss : Option (List (Int × Int))} (h : ∀ r ∈ t, r.xs.length = r.n) (h' : ∀ r ∈ t', r.xs.length = r.n) (he : t.map TRow.xs = t'.map TRow.xs) : deflErr np t wt ss = deflErr np t' wt ss := by
  unfold deflErr; rw [headLen_same h h' he]
theorem rowsD_same {t t' : List TRow} {wt : Int} {ys : List (Int × Int)} (he : t.map TRow.xs = t'.map TRow.xs) : rowsD wt t ys = rowsD wt t' ys := by
  have key : ∀ u : List TRow, rowsD wt u ys = (u.map TRow.xs).map fun xs => defl wt (xs.zip ys) := fun u => by unfold rowsD; rw [List.map_map]; rfl
  rw [key, key, he]
theorem defl_good (l : List Rk) (hfits : ∀ r ∈ l, r.Fits) (B : Option Addr) (nt ct : Nat) (t : List TRow) (A : Option Addr) (n c : Nat) (wt : Int) (w : World) (hx : Reads w w.heap.size 5 A n (rkCells l)) (hn : n ≤ 100000) (ht : ReadsT w w.heap.size B nt t) (hnt : nt ≤ 1000) (hT : tblErr t = 0) (h0 : openErr l = 0)
    (ps : List ByteArray) (hp : ptsOf l = some ps) (hps : ps.length ≤ 1000000) (ys : List (Int × Int)) (hs : sharesOf l = some ys) (hE : deflErr ps.length t wt (sharesOf l) = 0) (L : List (Int × Int)) (hL : rowsD wt t ys = L) :
    Calls Try.prog 11 #[.slice B nt ct, .slice A n c, .int .i64 wt] w (RangesPost L nt w) := hL ▸ defl_ok l hfits B nt ct t A n c wt w hx hn ht hnt hT h0 ps hp hps ys hs hE
theorem rdefl_good (l : List Rk) (hfits : ∀ r ∈ l, r.Fits) (B : Option Addr) (nt ct : Nat) (t : List TRow) (A : Option Addr) (n c : Nat) (wt : Int) (w : World) (hx : Reads w w.heap.size 5 A n (rkCells l)) (hn : n ≤ 100000) (ht : ReadsT w w.heap.size B nt t) (hnt : nt ≤ 1000) (hT : tblErr t = 0) (h0 : openErr l = 0)
    (ps : List ByteArray) (hp : ptsOf l = some ps) (hps : ps.length ≤ 1000000) (ys : List (Int × Int)) (hs : sharesOf l = some ys) (hE : deflErr ps.length t wt (sharesOf l) = 0) (L : List (Int × Int)) (hL : rowsD wt t ys = L) :
    Calls Try.prog 17 #[.slice B nt ct, .slice A n c, .int .i64 wt] w (RangesPost L nt w) := hL ▸ rdefl_ok l hfits B nt ct t A n c wt w hx hn ht hnt hT h0 ps hp hps ys hs hE

set_option maxRecDepth 100000 in
set_option maxHeartbeats 2000000 in
theorem lawT_any (B : Option Addr) (nt ct : Nat) (t : List TRow) (A : Option Addr) (n c : Nat) (l : List Rk) (wt : Int) (w : World)
    (hnct : nt ≤ ct ∧ ct ≤ 9223372036854775807) (_ : t.length = nt) (_ : ∀ r ∈ t, ∀ z ∈ r.xs, I64 z) (ht : ReadsT w w.heap.size B nt t)
    (hnc : n ≤ c ∧ c ≤ 9223372036854775807) (hl : l.length = n) (hfits : ∀ r ∈ l, r.Fits) (hx : Reads w w.heap.size 5 A n (rkCells l)) (hwt1 : -9223372036854775808 ≤ wt) (hwt2 : wt ≤ 9223372036854775807) :
    Calls Try.prog 3 #[.slice B nt ct, .slice A n c, .int .i64 wt] w fun e w' => e = .returned (.bool true) ∧ Below w.heap.size w w' := by
  obtain ⟨hnc, hcm⟩ := hnc
  obtain ⟨hntc, hctm⟩ := hnct
  have htl := ht.len
  have HLEN : Hid (∀ r ∈ t, r.xs.length = r.n) := fun r hr => ht.rlen hr
  cases hfw : fewB l
  · have HF := Lib.hid hfw
    clear hfw hl htl
    go_enter Try.func3, Try.ntmps3
    have R0_0 := Lib.hid hx
    clear hx
    have R1_0 := Lib.hid ht
    clear ht
    go_wp2_with fail
    refine (awake_any _).mono ?_
    rintro e w1 ⟨rfl, hb⟩
    have HB1 := Lib.hid (show Below w.heap.size w w1 from step_below hb (by repeat' (first | exact Below.refl _ _ | exact HB0.out | refine below_drewN ?_ _ | refine Below.drew ?_ | refine Below.alloc ?_ (by first | omega | (simp; done) | (simp; omega) | (simp [World.setCell]; omega)) _ | refine Below.setCell ?_ (by first | omega | (simp; done) | (simp; omega)) _ | assumption)))
    have hL1 := Lib.hid (show Below w.heap.size w _ from reads_mid hb (by repeat' (first | exact Below.refl _ _ | refine below_drewN ?_ _ | refine Below.drew ?_ | refine Below.alloc ?_ (by first | omega | (simp; done) | (simp; omega) | (simp [World.setCell]; omega)) _ | refine Below.setCell ?_ (by first | omega | (simp; done) | (simp; omega)) _)))
    have R0_1 := Lib.hid (reads_lay hb hL1.out R0_0.out)
    have R1_1 := Lib.hid (readsT_lay hb hL1.out R1_0.out)
    clear hL1 R0_0 R1_0
    have hz1 := hb.size
    try simp only [World.size_alloc, World.drewN, World.drew] at hz1
    clear hb
    go_wp2_with fail
    refine (few_is l hfits A n c _ false HF.out _ R0_1.out (by omega)).mono ?_
    rintro e w' ⟨rfl, rfl⟩
    go_wp2
    go_ret
    exact ⟨rfl, by repeat' (first | exact Below.refl _ _ | exact HB1.out | refine below_drewN ?_ _ | refine Below.drew ?_ | refine Below.alloc ?_ (by first | omega | (simp; done) | (simp; omega) | (simp [World.setCell]; omega)) _ | refine Below.setCell ?_ (by first | omega | (simp; done) | (simp; omega)) _ | assumption)⟩
  have hlen := fewB_len hfw
  have hn : n ≤ 43 := by omega
  cases hrm : roomB t
  · have HF := Lib.hid hfw
    have HRM := Lib.hid hrm
    clear hfw hrm hl htl
    go_enter Try.func3, Try.ntmps3
    have R0_0 := Lib.hid hx
    clear hx
    have R1_0 := Lib.hid ht
    clear ht
    go_wp2_with fail
    refine (awake_any _).mono ?_
    rintro e w1 ⟨rfl, hb⟩
    have HB1 := Lib.hid (show Below w.heap.size w w1 from step_below hb (by repeat' (first | exact Below.refl _ _ | exact HB0.out | refine below_drewN ?_ _ | refine Below.drew ?_ | refine Below.alloc ?_ (by first | omega | (simp; done) | (simp; omega) | (simp [World.setCell]; omega)) _ | refine Below.setCell ?_ (by first | omega | (simp; done) | (simp; omega)) _ | assumption)))
    have hL1 := Lib.hid (show Below w.heap.size w _ from reads_mid hb (by repeat' (first | exact Below.refl _ _ | refine below_drewN ?_ _ | refine Below.drew ?_ | refine Below.alloc ?_ (by first | omega | (simp; done) | (simp; omega) | (simp [World.setCell]; omega)) _ | refine Below.setCell ?_ (by first | omega | (simp; done) | (simp; omega)) _)))
    have R0_1 := Lib.hid (reads_lay hb hL1.out R0_0.out)
    have R1_1 := Lib.hid (readsT_lay hb hL1.out R1_0.out)
    clear hL1 R0_0 R1_0
    have hz1 := hb.size
    try simp only [World.size_alloc, World.drewN, World.drew] at hz1
    clear hb
    go_wp2_with fail
    refine (few_is l hfits A n c _ true HF.out _ R0_1.out (by omega)).mono ?_
    rintro e w' ⟨rfl, rfl⟩
    go_wp2_with fail
    refine (room_is B nt ct t false HRM.out _ R1_1.out (by omega)).mono ?_
    rintro e w' ⟨rfl, rfl⟩
    go_wp2
    go_ret
    exact ⟨rfl, by repeat' (first | exact Below.refl _ _ | exact HB1.out | refine below_drewN ?_ _ | refine Below.drew ?_ | refine Below.alloc ?_ (by first | omega | (simp; done) | (simp; omega) | (simp [World.setCell]; omega)) _ | refine Below.setCell ?_ (by first | omega | (simp; done) | (simp; omega)) _ | assumption)⟩
  obtain ⟨r1, r2, r3⟩ := room_parts hrm
  have hnt : nt ≤ 43 := by omega
  have hrows : ∀ r ∈ t, r.n ≤ 1000 := fun r hr => by have := (r3 r hr).2; omega
  have HF := Lib.hid hfw
  have HRM := Lib.hid hrm
  clear hrm r1 r2 r3 htl
  obtain ⟨E, hE⟩ : ∃ E, tblErr t = E := ⟨_, rfl⟩
  by_cases h0 : E = 0
  rotate_left
  · have HTE := Lib.hid hE
    have HE0 := Lib.hid h0
    have q1 : (E != 0) = true := by simpa using h0
    have q2 : (E == 0) = false := by simpa using h0
    have q3 : (E != E) = false := by simp
    have q4 : (E == E) = true := by simp
    clear hfw hE h0 hl
    go_enter Try.func3, Try.ntmps3
    have R0_0 := Lib.hid hx
    clear hx
    have R1_0 := Lib.hid ht
    clear ht
    go_wp2_with fail
    refine (awake_any _).mono ?_
    rintro e w1 ⟨rfl, hb⟩
    have HB1 := Lib.hid (show Below w.heap.size w w1 from step_below hb (by repeat' (first | exact Below.refl _ _ | exact HB0.out | refine below_drewN ?_ _ | refine Below.drew ?_ | refine Below.alloc ?_ (by first | omega | (simp; done) | (simp; omega) | (simp [World.setCell]; omega)) _ | refine Below.setCell ?_ (by first | omega | (simp; done) | (simp; omega)) _ | assumption)))
    have hL1 := Lib.hid (show Below w.heap.size w _ from reads_mid hb (by repeat' (first | exact Below.refl _ _ | refine below_drewN ?_ _ | refine Below.drew ?_ | refine Below.alloc ?_ (by first | omega | (simp; done) | (simp; omega) | (simp [World.setCell]; omega)) _ | refine Below.setCell ?_ (by first | omega | (simp; done) | (simp; omega)) _)))
    have R0_1 := Lib.hid (reads_lay hb hL1.out R0_0.out)
    have R1_1 := Lib.hid (readsT_lay hb hL1.out R1_0.out)
    clear hL1 R0_0 R1_0
    have hz1 := hb.size
    try simp only [World.size_alloc, World.drewN, World.drew] at hz1
    clear hb
    go_wp2_with fail
    refine (few_is l hfits A n c _ true HF.out _ R0_1.out (by omega)).mono ?_
    rintro e w' ⟨rfl, rfl⟩
    go_wp2_with fail
    refine (room_is B nt ct t true HRM.out _ R1_1.out (by omega)).mono ?_
    rintro e w' ⟨rfl, rfl⟩
    go_wp2_with fail
    refine (copylists_any B nt ct t _ R1_1.out (by omega) hrows).mono ?_
    rintro e w2 ⟨hb, A2, c2, t2, rfl, hm2, hr⟩
    have HB2 := Lib.hid (show Below w.heap.size w w2 from step_below hb (by repeat' (first | exact Below.refl _ _ | exact HB1.out | refine below_drewN ?_ _ | refine Below.drew ?_ | refine Below.alloc ?_ (by first | omega | (simp; done) | (simp; omega) | (simp [World.setCell]; omega)) _ | refine Below.setCell ?_ (by first | omega | (simp; done) | (simp; omega)) _ | assumption)))
    have hL2 := Lib.hid (show Below w1.heap.size w1 _ from reads_mid hb (by repeat' (first | exact Below.refl _ _ | refine below_drewN ?_ _ | refine Below.drew ?_ | refine Below.alloc ?_ (by first | omega | (simp; done) | (simp; omega) | (simp [World.setCell]; omega)) _ | refine Below.setCell ?_ (by first | omega | (simp; done) | (simp; omega)) _)))
    have R0_2 := Lib.hid (reads_lay hb hL2.out R0_1.out)
    have R1_2 := Lib.hid (readsT_lay hb hL2.out R1_1.out)
    clear hL2 R0_1 R1_1
    have hz2 := hb.size
    try simp only [World.size_alloc, World.drewN, World.drew] at hz2
    clear hb
    have HT2 : Hid (tblErr t2 = E) := (tblErr_same (fun r hr' => hr.rlen hr') HLEN.out hm2).trans HTE.out
    have HM2 := Lib.hid hm2
    have hl2 := fun r (hr' : r ∈ t2) => hr.rlen hr'
    have HL2 := Lib.hid hl2
    clear hm2 hl2
    have R2_2 := Lib.hid hr
    clear hr
    go_wp2_with fail
    refine (copied_any A n c _ l _ R0_2.out (Nat.le_refl _) (by omega)).mono ?_
    rintro e w3 ⟨A3, c3, rfl, hb, hr, -⟩
    have HB3 := Lib.hid (show Below w.heap.size w w3 from step_below hb (by repeat' (first | exact Below.refl _ _ | exact HB2.out | refine below_drewN ?_ _ | refine Below.drew ?_ | refine Below.alloc ?_ (by first | omega | (simp; done) | (simp; omega) | (simp [World.setCell]; omega)) _ | refine Below.setCell ?_ (by first | omega | (simp; done) | (simp; omega)) _ | assumption)))
    have hL3 := Lib.hid (show Below w2.heap.size w2 _ from reads_mid hb (by repeat' (first | exact Below.refl _ _ | refine below_drewN ?_ _ | refine Below.drew ?_ | refine Below.alloc ?_ (by first | omega | (simp; done) | (simp; omega) | (simp [World.setCell]; omega)) _ | refine Below.setCell ?_ (by first | omega | (simp; done) | (simp; omega)) _)))
    have R0_3 := Lib.hid (reads_lay hb hL3.out R0_2.out)
    have R1_3 := Lib.hid (readsT_lay hb hL3.out R1_2.out)
    have R2_3 := Lib.hid (readsT_lay hb hL3.out R2_2.out)
    clear hL3 R0_2 R1_2 R2_2
    have hz3 := hb.size
    try simp only [World.size_alloc, World.drewN, World.drew] at hz3
    clear hb
    have R3_3 := Lib.hid hr
    clear hr
    go_wp2_with fail
    refine (defl_tbl A2 nt c2 t2 A3 n c3 wt E _ R2_3.out (by omega) HT2.out HE0.out).mono ?_
    rintro e w4 ⟨rfl, hb⟩
    have HB4 := Lib.hid (show Below w.heap.size w w4 from step_below hb (by repeat' (first | exact Below.refl _ _ | exact HB3.out | refine below_drewN ?_ _ | refine Below.drew ?_ | refine Below.alloc ?_ (by first | omega | (simp; done) | (simp; omega) | (simp [World.setCell]; omega)) _ | refine Below.setCell ?_ (by first | omega | (simp; done) | (simp; omega)) _ | assumption)))
    have hL4 := Lib.hid (show Below w3.heap.size w3 _ from reads_mid hb (by repeat' (first | exact Below.refl _ _ | refine below_drewN ?_ _ | refine Below.drew ?_ | refine Below.alloc ?_ (by first | omega | (simp; done) | (simp; omega) | (simp [World.setCell]; omega)) _ | refine Below.setCell ?_ (by first | omega | (simp; done) | (simp; omega)) _)))
    have R0_4 := Lib.hid (reads_lay hb hL4.out R0_3.out)
    have R1_4 := Lib.hid (readsT_lay hb hL4.out R1_3.out)
    have R2_4 := Lib.hid (readsT_lay hb hL4.out R2_3.out)
    have R3_4 := Lib.hid (reads_lay hb hL4.out R3_3.out)
    clear hL4 R0_3 R1_3 R2_3 R3_3
    have hz4 := hb.size
    try simp only [World.size_alloc, World.drewN, World.drew] at hz4
    clear hb
    go_wp2_with fail
    refine (rchecktable_any B nt ct t _ R1_4.out (by omega) E HTE.out).mono ?_
    rintro e w5 ⟨rfl, hb⟩
    have HB5 := Lib.hid (show Below w.heap.size w w5 from step_below hb (by repeat' (first | exact Below.refl _ _ | exact HB4.out | refine below_drewN ?_ _ | refine Below.drew ?_ | refine Below.alloc ?_ (by first | omega | (simp; done) | (simp; omega) | (simp [World.setCell]; omega)) _ | refine Below.setCell ?_ (by first | omega | (simp; done) | (simp; omega)) _ | assumption)))
    have hL5 := Lib.hid (show Below w4.heap.size w4 _ from reads_mid hb (by repeat' (first | exact Below.refl _ _ | refine below_drewN ?_ _ | refine Below.drew ?_ | refine Below.alloc ?_ (by first | omega | (simp; done) | (simp; omega) | (simp [World.setCell]; omega)) _ | refine Below.setCell ?_ (by first | omega | (simp; done) | (simp; omega)) _)))
    have R0_5 := Lib.hid (reads_lay hb hL5.out R0_4.out)
    have R1_5 := Lib.hid (readsT_lay hb hL5.out R1_4.out)
    have R2_5 := Lib.hid (readsT_lay hb hL5.out R2_4.out)
    have R3_5 := Lib.hid (reads_lay hb hL5.out R3_4.out)
    clear hL5 R0_4 R1_4 R2_4 R3_4
    have hz5 := hb.size
    try simp only [World.size_alloc, World.drewN, World.drew] at hz5
    clear hb
    go_wp2_with fail
    refine (copylists_any B nt ct t _ R1_5.out (by omega) hrows).mono ?_
    rintro e w6 ⟨hb, A4, c4, t4, rfl, hm4, hr⟩
    have HB6 := Lib.hid (show Below w.heap.size w w6 from step_below hb (by repeat' (first | exact Below.refl _ _ | exact HB5.out | refine below_drewN ?_ _ | refine Below.drew ?_ | refine Below.alloc ?_ (by first | omega | (simp; done) | (simp; omega) | (simp [World.setCell]; omega)) _ | refine Below.setCell ?_ (by first | omega | (simp; done) | (simp; omega)) _ | assumption)))
    have hL6 := Lib.hid (show Below w5.heap.size w5 _ from reads_mid hb (by repeat' (first | exact Below.refl _ _ | refine below_drewN ?_ _ | refine Below.drew ?_ | refine Below.alloc ?_ (by first | omega | (simp; done) | (simp; omega) | (simp [World.setCell]; omega)) _ | refine Below.setCell ?_ (by first | omega | (simp; done) | (simp; omega)) _)))
    have R0_6 := Lib.hid (reads_lay hb hL6.out R0_5.out)
    have R1_6 := Lib.hid (readsT_lay hb hL6.out R1_5.out)
    have R2_6 := Lib.hid (readsT_lay hb hL6.out R2_5.out)
    have R3_6 := Lib.hid (reads_lay hb hL6.out R3_5.out)
    clear hL6 R0_5 R1_5 R2_5 R3_5
    have hz6 := hb.size
    try simp only [World.size_alloc, World.drewN, World.drew] at hz6
    clear hb
    have HT4 : Hid (tblErr t4 = E) := (tblErr_same (fun r hr' => hr.rlen hr') HLEN.out hm4).trans HTE.out
    clear hm4
    have R4_6 := Lib.hid hr
    clear hr
    go_wp2_with fail
    refine (checktable_any A4 nt c4 t4 _ R4_6.out (by omega) E HT4.out).mono ?_
    rintro e w7 ⟨rfl, hb⟩
    have HB7 := Lib.hid (show Below w.heap.size w w7 from step_below hb (by repeat' (first | exact Below.refl _ _ | exact HB6.out | refine below_drewN ?_ _ | refine Below.drew ?_ | refine Below.alloc ?_ (by first | omega | (simp; done) | (simp; omega) | (simp [World.setCell]; omega)) _ | refine Below.setCell ?_ (by first | omega | (simp; done) | (simp; omega)) _ | assumption)))
    have hL7 := Lib.hid (show Below w6.heap.size w6 _ from reads_mid hb (by repeat' (first | exact Below.refl _ _ | refine below_drewN ?_ _ | refine Below.drew ?_ | refine Below.alloc ?_ (by first | omega | (simp; done) | (simp; omega) | (simp [World.setCell]; omega)) _ | refine Below.setCell ?_ (by first | omega | (simp; done) | (simp; omega)) _)))
    have R0_7 := Lib.hid (reads_lay hb hL7.out R0_6.out)
    have R1_7 := Lib.hid (readsT_lay hb hL7.out R1_6.out)
    have R2_7 := Lib.hid (readsT_lay hb hL7.out R2_6.out)
    have R3_7 := Lib.hid (reads_lay hb hL7.out R3_6.out)
    have R4_7 := Lib.hid (readsT_lay hb hL7.out R4_6.out)
    clear hL7 R0_6 R1_6 R2_6 R3_6 R4_6
    have hz7 := hb.size
    try simp only [World.size_alloc, World.drewN, World.drew] at hz7
    clear hb
    go_wp2
    go_ret
    exact ⟨rfl, by repeat' (first | exact Below.refl _ _ | exact HB7.out | refine below_drewN ?_ _ | refine Below.drew ?_ | refine Below.alloc ?_ (by first | omega | (simp; done) | (simp; omega) | (simp [World.setCell]; omega)) _ | refine Below.setCell ?_ (by first | omega | (simp; done) | (simp; omega)) _ | assumption)⟩
  subst h0
  have HTE := Lib.hid hE
  obtain ⟨E, hO⟩ : ∃ E, openErr l = E := ⟨_, rfl⟩
  by_cases h0 : E = 0
  rotate_left
  · have HOE := Lib.hid hO
    have HE0 := Lib.hid h0
    have q1 : (E != 0) = true := by simpa using h0
    have q2 : (E == 0) = false := by simpa using h0
    have q3 : (E != E) = false := by simp
    have q4 : (E == E) = true := by simp
    clear hfw hE h0 hl hO
    go_enter Try.func3, Try.ntmps3
    have R0_0 := Lib.hid hx
    clear hx
    have R1_0 := Lib.hid ht
    clear ht
    go_wp2_with fail
    refine (awake_any _).mono ?_
    rintro e w1 ⟨rfl, hb⟩
    have HB1 := Lib.hid (show Below w.heap.size w w1 from step_below hb (by repeat' (first | exact Below.refl _ _ | exact HB0.out | refine below_drewN ?_ _ | refine Below.drew ?_ | refine Below.alloc ?_ (by first | omega | (simp; done) | (simp; omega) | (simp [World.setCell]; omega)) _ | refine Below.setCell ?_ (by first | omega | (simp; done) | (simp; omega)) _ | assumption)))
    have hL1 := Lib.hid (show Below w.heap.size w _ from reads_mid hb (by repeat' (first | exact Below.refl _ _ | refine below_drewN ?_ _ | refine Below.drew ?_ | refine Below.alloc ?_ (by first | omega | (simp; done) | (simp; omega) | (simp [World.setCell]; omega)) _ | refine Below.setCell ?_ (by first | omega | (simp; done) | (simp; omega)) _)))
    have R0_1 := Lib.hid (reads_lay hb hL1.out R0_0.out)
    have R1_1 := Lib.hid (readsT_lay hb hL1.out R1_0.out)
    clear hL1 R0_0 R1_0
    have hz1 := hb.size
    try simp only [World.size_alloc, World.drewN, World.drew] at hz1
    clear hb
    go_wp2_with fail
    refine (few_is l hfits A n c _ true HF.out _ R0_1.out (by omega)).mono ?_
    rintro e w' ⟨rfl, rfl⟩
    go_wp2_with fail
    refine (room_is B nt ct t true HRM.out _ R1_1.out (by omega)).mono ?_
    rintro e w' ⟨rfl, rfl⟩
    go_wp2_with fail
    refine (copylists_any B nt ct t _ R1_1.out (by omega) hrows).mono ?_
    rintro e w2 ⟨hb, A2, c2, t2, rfl, hm2, hr⟩
    have HB2 := Lib.hid (show Below w.heap.size w w2 from step_below hb (by repeat' (first | exact Below.refl _ _ | exact HB1.out | refine below_drewN ?_ _ | refine Below.drew ?_ | refine Below.alloc ?_ (by first | omega | (simp; done) | (simp; omega) | (simp [World.setCell]; omega)) _ | refine Below.setCell ?_ (by first | omega | (simp; done) | (simp; omega)) _ | assumption)))
    have hL2 := Lib.hid (show Below w1.heap.size w1 _ from reads_mid hb (by repeat' (first | exact Below.refl _ _ | refine below_drewN ?_ _ | refine Below.drew ?_ | refine Below.alloc ?_ (by first | omega | (simp; done) | (simp; omega) | (simp [World.setCell]; omega)) _ | refine Below.setCell ?_ (by first | omega | (simp; done) | (simp; omega)) _)))
    have R0_2 := Lib.hid (reads_lay hb hL2.out R0_1.out)
    have R1_2 := Lib.hid (readsT_lay hb hL2.out R1_1.out)
    clear hL2 R0_1 R1_1
    have hz2 := hb.size
    try simp only [World.size_alloc, World.drewN, World.drew] at hz2
    clear hb
    have HT2 : Hid (tblErr t2 = 0) := (tblErr_same (fun r hr' => hr.rlen hr') HLEN.out hm2).trans HTE.out
    have HM2 := Lib.hid hm2
    have hl2 := fun r (hr' : r ∈ t2) => hr.rlen hr'
    have HL2 := Lib.hid hl2
    clear hm2 hl2
    have R2_2 := Lib.hid hr
    clear hr
    go_wp2_with fail
    refine (copied_any A n c _ l _ R0_2.out (Nat.le_refl _) (by omega)).mono ?_
    rintro e w3 ⟨A3, c3, rfl, hb, hr, -⟩
    have HB3 := Lib.hid (show Below w.heap.size w w3 from step_below hb (by repeat' (first | exact Below.refl _ _ | exact HB2.out | refine below_drewN ?_ _ | refine Below.drew ?_ | refine Below.alloc ?_ (by first | omega | (simp; done) | (simp; omega) | (simp [World.setCell]; omega)) _ | refine Below.setCell ?_ (by first | omega | (simp; done) | (simp; omega)) _ | assumption)))
    have hL3 := Lib.hid (show Below w2.heap.size w2 _ from reads_mid hb (by repeat' (first | exact Below.refl _ _ | refine below_drewN ?_ _ | refine Below.drew ?_ | refine Below.alloc ?_ (by first | omega | (simp; done) | (simp; omega) | (simp [World.setCell]; omega)) _ | refine Below.setCell ?_ (by first | omega | (simp; done) | (simp; omega)) _)))
    have R0_3 := Lib.hid (reads_lay hb hL3.out R0_2.out)
    have R1_3 := Lib.hid (readsT_lay hb hL3.out R1_2.out)
    have R2_3 := Lib.hid (readsT_lay hb hL3.out R2_2.out)
    clear hL3 R0_2 R1_2 R2_2
    have hz3 := hb.size
    try simp only [World.size_alloc, World.drewN, World.drew] at hz3
    clear hb
    have R3_3 := Lib.hid hr
    clear hr
    go_wp2_with fail
    refine (defl_tree l hfits A2 nt c2 t2 A3 n c3 wt E _ R3_3.out (by omega) R2_3.out (by omega) HT2.out HOE.out HE0.out).mono ?_
    rintro e w4 ⟨rfl, hb⟩
    have HB4 := Lib.hid (show Below w.heap.size w w4 from step_below hb (by repeat' (first | exact Below.refl _ _ | exact HB3.out | refine below_drewN ?_ _ | refine Below.drew ?_ | refine Below.alloc ?_ (by first | omega | (simp; done) | (simp; omega) | (simp [World.setCell]; omega)) _ | refine Below.setCell ?_ (by first | omega | (simp; done) | (simp; omega)) _ | assumption)))
    have hL4 := Lib.hid (show Below w3.heap.size w3 _ from reads_mid hb (by repeat' (first | exact Below.refl _ _ | refine below_drewN ?_ _ | refine Below.drew ?_ | refine Below.alloc ?_ (by first | omega | (simp; done) | (simp; omega) | (simp [World.setCell]; omega)) _ | refine Below.setCell ?_ (by first | omega | (simp; done) | (simp; omega)) _)))
    have R0_4 := Lib.hid (reads_lay hb hL4.out R0_3.out)
    have R1_4 := Lib.hid (readsT_lay hb hL4.out R1_3.out)
    have R2_4 := Lib.hid (readsT_lay hb hL4.out R2_3.out)
    have R3_4 := Lib.hid (reads_lay hb hL4.out R3_3.out)
    clear hL4 R0_3 R1_3 R2_3 R3_3
    have hz4 := hb.size
    try simp only [World.size_alloc, World.drewN, World.drew] at hz4
    clear hb
    go_wp2_with fail
    refine (rchecktable_any B nt ct t _ R1_4.out (by omega) 0 HTE.out).mono ?_
    rintro e w5 ⟨rfl, hb⟩
    have HB5 := Lib.hid (show Below w.heap.size w w5 from step_below hb (by repeat' (first | exact Below.refl _ _ | exact HB4.out | refine below_drewN ?_ _ | refine Below.drew ?_ | refine Below.alloc ?_ (by first | omega | (simp; done) | (simp; omega) | (simp [World.setCell]; omega)) _ | refine Below.setCell ?_ (by first | omega | (simp; done) | (simp; omega)) _ | assumption)))
    have hL5 := Lib.hid (show Below w4.heap.size w4 _ from reads_mid hb (by repeat' (first | exact Below.refl _ _ | refine below_drewN ?_ _ | refine Below.drew ?_ | refine Below.alloc ?_ (by first | omega | (simp; done) | (simp; omega) | (simp [World.setCell]; omega)) _ | refine Below.setCell ?_ (by first | omega | (simp; done) | (simp; omega)) _)))
    have R0_5 := Lib.hid (reads_lay hb hL5.out R0_4.out)
    have R1_5 := Lib.hid (readsT_lay hb hL5.out R1_4.out)
    have R2_5 := Lib.hid (readsT_lay hb hL5.out R2_4.out)
    have R3_5 := Lib.hid (reads_lay hb hL5.out R3_4.out)
    clear hL5 R0_4 R1_4 R2_4 R3_4
    have hz5 := hb.size
    try simp only [World.size_alloc, World.drewN, World.drew] at hz5
    clear hb
    go_wp2_with fail
    refine (copylists_any B nt ct t _ R1_5.out (by omega) hrows).mono ?_
    rintro e w6 ⟨hb, A4, c4, t4, rfl, hm4, hr⟩
    have HB6 := Lib.hid (show Below w.heap.size w w6 from step_below hb (by repeat' (first | exact Below.refl _ _ | exact HB5.out | refine below_drewN ?_ _ | refine Below.drew ?_ | refine Below.alloc ?_ (by first | omega | (simp; done) | (simp; omega) | (simp [World.setCell]; omega)) _ | refine Below.setCell ?_ (by first | omega | (simp; done) | (simp; omega)) _ | assumption)))
    have hL6 := Lib.hid (show Below w5.heap.size w5 _ from reads_mid hb (by repeat' (first | exact Below.refl _ _ | refine below_drewN ?_ _ | refine Below.drew ?_ | refine Below.alloc ?_ (by first | omega | (simp; done) | (simp; omega) | (simp [World.setCell]; omega)) _ | refine Below.setCell ?_ (by first | omega | (simp; done) | (simp; omega)) _)))
    have R0_6 := Lib.hid (reads_lay hb hL6.out R0_5.out)
    have R1_6 := Lib.hid (readsT_lay hb hL6.out R1_5.out)
    have R2_6 := Lib.hid (readsT_lay hb hL6.out R2_5.out)
    have R3_6 := Lib.hid (reads_lay hb hL6.out R3_5.out)
    clear hL6 R0_5 R1_5 R2_5 R3_5
    have hz6 := hb.size
    try simp only [World.size_alloc, World.drewN, World.drew] at hz6
    clear hb
    have HT4 : Hid (tblErr t4 = 0) := (tblErr_same (fun r hr' => hr.rlen hr') HLEN.out hm4).trans HTE.out
    clear hm4
    have R4_6 := Lib.hid hr
    clear hr
    go_wp2_with fail
    refine (checktable_any A4 nt c4 t4 _ R4_6.out (by omega) 0 HT4.out).mono ?_
    rintro e w7 ⟨rfl, hb⟩
    have HB7 := Lib.hid (show Below w.heap.size w w7 from step_below hb (by repeat' (first | exact Below.refl _ _ | exact HB6.out | refine below_drewN ?_ _ | refine Below.drew ?_ | refine Below.alloc ?_ (by first | omega | (simp; done) | (simp; omega) | (simp [World.setCell]; omega)) _ | refine Below.setCell ?_ (by first | omega | (simp; done) | (simp; omega)) _ | assumption)))
    have hL7 := Lib.hid (show Below w6.heap.size w6 _ from reads_mid hb (by repeat' (first | exact Below.refl _ _ | refine below_drewN ?_ _ | refine Below.drew ?_ | refine Below.alloc ?_ (by first | omega | (simp; done) | (simp; omega) | (simp [World.setCell]; omega)) _ | refine Below.setCell ?_ (by first | omega | (simp; done) | (simp; omega)) _)))
    have R0_7 := Lib.hid (reads_lay hb hL7.out R0_6.out)
    have R1_7 := Lib.hid (readsT_lay hb hL7.out R1_6.out)
    have R2_7 := Lib.hid (readsT_lay hb hL7.out R2_6.out)
    have R3_7 := Lib.hid (reads_lay hb hL7.out R3_6.out)
    have R4_7 := Lib.hid (readsT_lay hb hL7.out R4_6.out)
    clear hL7 R0_6 R1_6 R2_6 R3_6 R4_6
    have hz7 := hb.size
    try simp only [World.size_alloc, World.drewN, World.drew] at hz7
    clear hb
    go_wp2_with fail
    refine (rchecktree_is l hfits A n c _ E HOE.out _ R0_7.out (Nat.le_refl _) (by omega) hnc hcm).mono ?_
    rintro e w8 ⟨rfl, hb⟩
    have HB8 := Lib.hid (show Below w.heap.size w w8 from step_below hb (by repeat' (first | exact Below.refl _ _ | exact HB7.out | refine below_drewN ?_ _ | refine Below.drew ?_ | refine Below.alloc ?_ (by first | omega | (simp; done) | (simp; omega) | (simp [World.setCell]; omega)) _ | refine Below.setCell ?_ (by first | omega | (simp; done) | (simp; omega)) _ | assumption)))
    have hL8 := Lib.hid (show Below w7.heap.size w7 _ from reads_mid hb (by repeat' (first | exact Below.refl _ _ | refine below_drewN ?_ _ | refine Below.drew ?_ | refine Below.alloc ?_ (by first | omega | (simp; done) | (simp; omega) | (simp [World.setCell]; omega)) _ | refine Below.setCell ?_ (by first | omega | (simp; done) | (simp; omega)) _)))
    have R0_8 := Lib.hid (reads_lay hb hL8.out R0_7.out)
    have R1_8 := Lib.hid (readsT_lay hb hL8.out R1_7.out)
    have R2_8 := Lib.hid (readsT_lay hb hL8.out R2_7.out)
    have R3_8 := Lib.hid (reads_lay hb hL8.out R3_7.out)
    have R4_8 := Lib.hid (readsT_lay hb hL8.out R4_7.out)
    clear hL8 R0_7 R1_7 R2_7 R3_7 R4_7
    have hz8 := hb.size
    try simp only [World.size_alloc, World.drewN, World.drew] at hz8
    clear hb
    go_wp2
    go_ret
    exact ⟨rfl, by repeat' (first | exact Below.refl _ _ | exact HB8.out | refine below_drewN ?_ _ | refine Below.drew ?_ | refine Below.alloc ?_ (by first | omega | (simp; done) | (simp; omega) | (simp [World.setCell]; omega)) _ | refine Below.setCell ?_ (by first | omega | (simp; done) | (simp; omega)) _ | assumption)⟩
  subst h0
  obtain ⟨ps, hps, hpl⟩ := few_pts hfw hO
  have HO := Lib.hid hO
  have HP := Lib.hid hps
  obtain ⟨F, hF⟩ : ∃ F, deflErr ps.length t wt (sharesOf l) = F := ⟨_, rfl⟩
  by_cases h0 : F = 0
  rotate_left
  · have HDF := Lib.hid hF
    have HF0 := Lib.hid h0
    have q4 : (F == F) = true := by simp
    clear hfw hE h0 hl hO hps hF
    go_enter Try.func3, Try.ntmps3
    have R0_0 := Lib.hid hx
    clear hx
    have R1_0 := Lib.hid ht
    clear ht
    go_wp2_with fail
    refine (awake_any _).mono ?_
    rintro e w1 ⟨rfl, hb⟩
    have HB1 := Lib.hid (show Below w.heap.size w w1 from step_below hb (by repeat' (first | exact Below.refl _ _ | exact HB0.out | refine below_drewN ?_ _ | refine Below.drew ?_ | refine Below.alloc ?_ (by first | omega | (simp; done) | (simp; omega) | (simp [World.setCell]; omega)) _ | refine Below.setCell ?_ (by first | omega | (simp; done) | (simp; omega)) _ | assumption)))
    have hL1 := Lib.hid (show Below w.heap.size w _ from reads_mid hb (by repeat' (first | exact Below.refl _ _ | refine below_drewN ?_ _ | refine Below.drew ?_ | refine Below.alloc ?_ (by first | omega | (simp; done) | (simp; omega) | (simp [World.setCell]; omega)) _ | refine Below.setCell ?_ (by first | omega | (simp; done) | (simp; omega)) _)))
    have R0_1 := Lib.hid (reads_lay hb hL1.out R0_0.out)
    have R1_1 := Lib.hid (readsT_lay hb hL1.out R1_0.out)
    clear hL1 R0_0 R1_0
    have hz1 := hb.size
    try simp only [World.size_alloc, World.drewN, World.drew] at hz1
    clear hb
    go_wp2_with fail
    refine (few_is l hfits A n c _ true HF.out _ R0_1.out (by omega)).mono ?_
    rintro e w' ⟨rfl, rfl⟩
    go_wp2_with fail
    refine (room_is B nt ct t true HRM.out _ R1_1.out (by omega)).mono ?_
    rintro e w' ⟨rfl, rfl⟩
    go_wp2_with fail
    refine (copylists_any B nt ct t _ R1_1.out (by omega) hrows).mono ?_
    rintro e w2 ⟨hb, A2, c2, t2, rfl, hm2, hr⟩
    have HB2 := Lib.hid (show Below w.heap.size w w2 from step_below hb (by repeat' (first | exact Below.refl _ _ | exact HB1.out | refine below_drewN ?_ _ | refine Below.drew ?_ | refine Below.alloc ?_ (by first | omega | (simp; done) | (simp; omega) | (simp [World.setCell]; omega)) _ | refine Below.setCell ?_ (by first | omega | (simp; done) | (simp; omega)) _ | assumption)))
    have hL2 := Lib.hid (show Below w1.heap.size w1 _ from reads_mid hb (by repeat' (first | exact Below.refl _ _ | refine below_drewN ?_ _ | refine Below.drew ?_ | refine Below.alloc ?_ (by first | omega | (simp; done) | (simp; omega) | (simp [World.setCell]; omega)) _ | refine Below.setCell ?_ (by first | omega | (simp; done) | (simp; omega)) _)))
    have R0_2 := Lib.hid (reads_lay hb hL2.out R0_1.out)
    have R1_2 := Lib.hid (readsT_lay hb hL2.out R1_1.out)
    clear hL2 R0_1 R1_1
    have hz2 := hb.size
    try simp only [World.size_alloc, World.drewN, World.drew] at hz2
    clear hb
    have HT2 : Hid (tblErr t2 = 0) := (tblErr_same (fun r hr' => hr.rlen hr') HLEN.out hm2).trans HTE.out
    have HM2 := Lib.hid hm2
    have hl2 := fun r (hr' : r ∈ t2) => hr.rlen hr'
    have HL2 := Lib.hid hl2
    clear hm2 hl2
    have R2_2 := Lib.hid hr
    clear hr
    go_wp2_with fail
    refine (copied_any A n c _ l _ R0_2.out (Nat.le_refl _) (by omega)).mono ?_
    rintro e w3 ⟨A3, c3, rfl, hb, hr, -⟩
    have HB3 := Lib.hid (show Below w.heap.size w w3 from step_below hb (by repeat' (first | exact Below.refl _ _ | exact HB2.out | refine below_drewN ?_ _ | refine Below.drew ?_ | refine Below.alloc ?_ (by first | omega | (simp; done) | (simp; omega) | (simp [World.setCell]; omega)) _ | refine Below.setCell ?_ (by first | omega | (simp; done) | (simp; omega)) _ | assumption)))
    have hL3 := Lib.hid (show Below w2.heap.size w2 _ from reads_mid hb (by repeat' (first | exact Below.refl _ _ | refine below_drewN ?_ _ | refine Below.drew ?_ | refine Below.alloc ?_ (by first | omega | (simp; done) | (simp; omega) | (simp [World.setCell]; omega)) _ | refine Below.setCell ?_ (by first | omega | (simp; done) | (simp; omega)) _)))
    have R0_3 := Lib.hid (reads_lay hb hL3.out R0_2.out)
    have R1_3 := Lib.hid (readsT_lay hb hL3.out R1_2.out)
    have R2_3 := Lib.hid (readsT_lay hb hL3.out R2_2.out)
    clear hL3 R0_2 R1_2 R2_2
    have hz3 := hb.size
    try simp only [World.size_alloc, World.drewN, World.drew] at hz3
    clear hb
    have R3_3 := Lib.hid hr
    clear hr
    have HD2 := Lib.hid ((deflErr_same (np := ps.length) (wt := wt) (ss := sharesOf l) HL2.out HLEN.out HM2.out).trans HDF.out)
    go_wp2_with fail
    refine (defl_err l hfits A2 nt c2 t2 A3 n c3 wt F _ R3_3.out (by omega) R2_3.out (by omega) HT2.out HO.out ps HP.out hpl HD2.out HF0.out).mono ?_
    rintro e w4 ⟨rfl, hb⟩
    have HB4 := Lib.hid (show Below w.heap.size w w4 from step_below hb (by repeat' (first | exact Below.refl _ _ | exact HB3.out | refine below_drewN ?_ _ | refine Below.drew ?_ | refine Below.alloc ?_ (by first | omega | (simp; done) | (simp; omega) | (simp [World.setCell]; omega)) _ | refine Below.setCell ?_ (by first | omega | (simp; done) | (simp; omega)) _ | assumption)))
    have hL4 := Lib.hid (show Below w3.heap.size w3 _ from reads_mid hb (by repeat' (first | exact Below.refl _ _ | refine below_drewN ?_ _ | refine Below.drew ?_ | refine Below.alloc ?_ (by first | omega | (simp; done) | (simp; omega) | (simp [World.setCell]; omega)) _ | refine Below.setCell ?_ (by first | omega | (simp; done) | (simp; omega)) _)))
    have R0_4 := Lib.hid (reads_lay hb hL4.out R0_3.out)
    have R1_4 := Lib.hid (readsT_lay hb hL4.out R1_3.out)
    have R2_4 := Lib.hid (readsT_lay hb hL4.out R2_3.out)
    have R3_4 := Lib.hid (reads_lay hb hL4.out R3_3.out)
    clear hL4 R0_3 R1_3 R2_3 R3_3
    have hz4 := hb.size
    try simp only [World.size_alloc, World.drewN, World.drew] at hz4
    clear hb
    go_wp2_with fail
    refine (rchecktable_any B nt ct t _ R1_4.out (by omega) 0 HTE.out).mono ?_
    rintro e w5 ⟨rfl, hb⟩
    have HB5 := Lib.hid (show Below w.heap.size w w5 from step_below hb (by repeat' (first | exact Below.refl _ _ | exact HB4.out | refine below_drewN ?_ _ | refine Below.drew ?_ | refine Below.alloc ?_ (by first | omega | (simp; done) | (simp; omega) | (simp [World.setCell]; omega)) _ | refine Below.setCell ?_ (by first | omega | (simp; done) | (simp; omega)) _ | assumption)))
    have hL5 := Lib.hid (show Below w4.heap.size w4 _ from reads_mid hb (by repeat' (first | exact Below.refl _ _ | refine below_drewN ?_ _ | refine Below.drew ?_ | refine Below.alloc ?_ (by first | omega | (simp; done) | (simp; omega) | (simp [World.setCell]; omega)) _ | refine Below.setCell ?_ (by first | omega | (simp; done) | (simp; omega)) _)))
    have R0_5 := Lib.hid (reads_lay hb hL5.out R0_4.out)
    have R1_5 := Lib.hid (readsT_lay hb hL5.out R1_4.out)
    have R2_5 := Lib.hid (readsT_lay hb hL5.out R2_4.out)
    have R3_5 := Lib.hid (reads_lay hb hL5.out R3_4.out)
    clear hL5 R0_4 R1_4 R2_4 R3_4
    have hz5 := hb.size
    try simp only [World.size_alloc, World.drewN, World.drew] at hz5
    clear hb
    go_wp2_with fail
    refine (copylists_any B nt ct t _ R1_5.out (by omega) hrows).mono ?_
    rintro e w6 ⟨hb, A4, c4, t4, rfl, hm4, hr⟩
    have HB6 := Lib.hid (show Below w.heap.size w w6 from step_below hb (by repeat' (first | exact Below.refl _ _ | exact HB5.out | refine below_drewN ?_ _ | refine Below.drew ?_ | refine Below.alloc ?_ (by first | omega | (simp; done) | (simp; omega) | (simp [World.setCell]; omega)) _ | refine Below.setCell ?_ (by first | omega | (simp; done) | (simp; omega)) _ | assumption)))
    have hL6 := Lib.hid (show Below w5.heap.size w5 _ from reads_mid hb (by repeat' (first | exact Below.refl _ _ | refine below_drewN ?_ _ | refine Below.drew ?_ | refine Below.alloc ?_ (by first | omega | (simp; done) | (simp; omega) | (simp [World.setCell]; omega)) _ | refine Below.setCell ?_ (by first | omega | (simp; done) | (simp; omega)) _)))
    have R0_6 := Lib.hid (reads_lay hb hL6.out R0_5.out)
    have R1_6 := Lib.hid (readsT_lay hb hL6.out R1_5.out)
    have R2_6 := Lib.hid (readsT_lay hb hL6.out R2_5.out)
    have R3_6 := Lib.hid (reads_lay hb hL6.out R3_5.out)
    clear hL6 R0_5 R1_5 R2_5 R3_5
    have hz6 := hb.size
    try simp only [World.size_alloc, World.drewN, World.drew] at hz6
    clear hb
    have HT4 : Hid (tblErr t4 = 0) := (tblErr_same (fun r hr' => hr.rlen hr') HLEN.out hm4).trans HTE.out
    clear hm4
    have R4_6 := Lib.hid hr
    clear hr
    go_wp2_with fail
    refine (checktable_any A4 nt c4 t4 _ R4_6.out (by omega) 0 HT4.out).mono ?_
    rintro e w7 ⟨rfl, hb⟩
    have HB7 := Lib.hid (show Below w.heap.size w w7 from step_below hb (by repeat' (first | exact Below.refl _ _ | exact HB6.out | refine below_drewN ?_ _ | refine Below.drew ?_ | refine Below.alloc ?_ (by first | omega | (simp; done) | (simp; omega) | (simp [World.setCell]; omega)) _ | refine Below.setCell ?_ (by first | omega | (simp; done) | (simp; omega)) _ | assumption)))
    have hL7 := Lib.hid (show Below w6.heap.size w6 _ from reads_mid hb (by repeat' (first | exact Below.refl _ _ | refine below_drewN ?_ _ | refine Below.drew ?_ | refine Below.alloc ?_ (by first | omega | (simp; done) | (simp; omega) | (simp [World.setCell]; omega)) _ | refine Below.setCell ?_ (by first | omega | (simp; done) | (simp; omega)) _)))
    have R0_7 := Lib.hid (reads_lay hb hL7.out R0_6.out)
    have R1_7 := Lib.hid (readsT_lay hb hL7.out R1_6.out)
    have R2_7 := Lib.hid (readsT_lay hb hL7.out R2_6.out)
    have R3_7 := Lib.hid (reads_lay hb hL7.out R3_6.out)
    have R4_7 := Lib.hid (readsT_lay hb hL7.out R4_6.out)
    clear hL7 R0_6 R1_6 R2_6 R3_6 R4_6
    have hz7 := hb.size
    try simp only [World.size_alloc, World.drewN, World.drew] at hz7
    clear hb
    go_wp2_with fail
    refine (rchecktree_is l hfits A n c _ 0 HO.out _ R0_7.out (Nat.le_refl _) (by omega) hnc hcm).mono ?_
    rintro e w8 ⟨rfl, hb⟩
    have HB8 := Lib.hid (show Below w.heap.size w w8 from step_below hb (by repeat' (first | exact Below.refl _ _ | exact HB7.out | refine below_drewN ?_ _ | refine Below.drew ?_ | refine Below.alloc ?_ (by first | omega | (simp; done) | (simp; omega) | (simp [World.setCell]; omega)) _ | refine Below.setCell ?_ (by first | omega | (simp; done) | (simp; omega)) _ | assumption)))
    have hL8 := Lib.hid (show Below w7.heap.size w7 _ from reads_mid hb (by repeat' (first | exact Below.refl _ _ | refine below_drewN ?_ _ | refine Below.drew ?_ | refine Below.alloc ?_ (by first | omega | (simp; done) | (simp; omega) | (simp [World.setCell]; omega)) _ | refine Below.setCell ?_ (by first | omega | (simp; done) | (simp; omega)) _)))
    have R0_8 := Lib.hid (reads_lay hb hL8.out R0_7.out)
    have R1_8 := Lib.hid (readsT_lay hb hL8.out R1_7.out)
    have R2_8 := Lib.hid (readsT_lay hb hL8.out R2_7.out)
    have R3_8 := Lib.hid (reads_lay hb hL8.out R3_7.out)
    have R4_8 := Lib.hid (readsT_lay hb hL8.out R4_7.out)
    clear hL8 R0_7 R1_7 R2_7 R3_7 R4_7
    have hz8 := hb.size
    try simp only [World.size_alloc, World.drewN, World.drew] at hz8
    clear hb
    go_wp2_with fail
    refine (rdefl_err l hfits B nt ct t A n c wt F _ R0_8.out (by omega) R1_8.out (by omega) HTE.out HO.out ps HP.out hpl HDF.out HF0.out).mono ?_
    rintro e w9 ⟨rfl, hb⟩
    have HB9 := Lib.hid (show Below w.heap.size w w9 from step_below hb (by repeat' (first | exact Below.refl _ _ | exact HB8.out | refine below_drewN ?_ _ | refine Below.drew ?_ | refine Below.alloc ?_ (by first | omega | (simp; done) | (simp; omega) | (simp [World.setCell]; omega)) _ | refine Below.setCell ?_ (by first | omega | (simp; done) | (simp; omega)) _ | assumption)))
    have hL9 := Lib.hid (show Below w8.heap.size w8 _ from reads_mid hb (by repeat' (first | exact Below.refl _ _ | refine below_drewN ?_ _ | refine Below.drew ?_ | refine Below.alloc ?_ (by first | omega | (simp; done) | (simp; omega) | (simp [World.setCell]; omega)) _ | refine Below.setCell ?_ (by first | omega | (simp; done) | (simp; omega)) _)))
    have R0_9 := Lib.hid (reads_lay hb hL9.out R0_8.out)
    have R1_9 := Lib.hid (readsT_lay hb hL9.out R1_8.out)
    have R2_9 := Lib.hid (readsT_lay hb hL9.out R2_8.out)
    have R3_9 := Lib.hid (reads_lay hb hL9.out R3_8.out)
    have R4_9 := Lib.hid (readsT_lay hb hL9.out R4_8.out)
    clear hL9 R0_8 R1_8 R2_8 R3_8 R4_8
    have hz9 := hb.size
    try simp only [World.size_alloc, World.drewN, World.drew] at hz9
    clear hb
    go_wp2_with fail
    refine (ranges_same none none 0 0 0 [] _ 0 (by exact Reads.none_) (by exact Reads.none_) (by omega)).mono ?_
    rintro e w' ⟨rfl, q, rfl⟩
    go_wp2
    go_ret
    exact ⟨rfl, by repeat' (first | exact Below.refl _ _ | exact HB9.out | refine below_drewN ?_ _ | refine Below.drew ?_ | refine Below.alloc ?_ (by first | omega | (simp; done) | (simp; omega) | (simp [World.setCell]; omega)) _ | refine Below.setCell ?_ (by first | omega | (simp; done) | (simp; omega)) _ | assumption)⟩
  subst h0
  obtain ⟨ys, hys⟩ : ∃ ys, sharesOf l = some ys := by
    cases hs : sharesOf l with
    | some ys => exact ⟨ys, rfl⟩
    | none =>
      exfalso
      unfold deflErr at hF
      rw [hs] at hF
      by_cases g1 : headLen t ≠ ps.length
      · rw [if_pos g1] at hF; cases hF
      · rw [if_neg g1] at hF
        by_cases g2 : withinB wt 0 100000 = false
        · rw [if_pos g2] at hF; cases hF
        · rw [if_neg g2, if_pos rfl] at hF; cases hF
  obtain ⟨L, hL⟩ : ∃ L, rowsD wt t ys = L := ⟨_, rfl⟩
  have HDF := Lib.hid hF
  have HS := Lib.hid hys
  have HLL := Lib.hid hL
  clear hfw hE hl hO hps hF hys hL
  go_enter Try.func3, Try.ntmps3
  have R0_0 := Lib.hid hx
  clear hx
  have R1_0 := Lib.hid ht
  clear ht
  go_wp2_with fail
  refine (awake_any _).mono ?_
  rintro e w1 ⟨rfl, hb⟩
  have HB1 := Lib.hid (show Below w.heap.size w w1 from step_below hb (by repeat' (first | exact Below.refl _ _ | exact HB0.out | refine below_drewN ?_ _ | refine Below.drew ?_ | refine Below.alloc ?_ (by first | omega | (simp; done) | (simp; omega) | (simp [World.setCell]; omega)) _ | refine Below.setCell ?_ (by first | omega | (simp; done) | (simp; omega)) _ | assumption)))
  have hL1 := Lib.hid (show Below w.heap.size w _ from reads_mid hb (by repeat' (first | exact Below.refl _ _ | refine below_drewN ?_ _ | refine Below.drew ?_ | refine Below.alloc ?_ (by first | omega | (simp; done) | (simp; omega) | (simp [World.setCell]; omega)) _ | refine Below.setCell ?_ (by first | omega | (simp; done) | (simp; omega)) _)))
  have R0_1 := Lib.hid (reads_lay hb hL1.out R0_0.out)
  have R1_1 := Lib.hid (readsT_lay hb hL1.out R1_0.out)
  clear hL1 R0_0 R1_0
  have hz1 := hb.size
  try simp only [World.size_alloc, World.drewN, World.drew] at hz1
  clear hb
  go_wp2_with fail
  refine (few_is l hfits A n c _ true HF.out _ R0_1.out (by omega)).mono ?_
  rintro e w' ⟨rfl, rfl⟩
  go_wp2_with fail
  refine (room_is B nt ct t true HRM.out _ R1_1.out (by omega)).mono ?_
  rintro e w' ⟨rfl, rfl⟩
  go_wp2_with fail
  refine (copylists_any B nt ct t _ R1_1.out (by omega) hrows).mono ?_
  rintro e w2 ⟨hb, A2, c2, t2, rfl, hm2, hr⟩
  have HB2 := Lib.hid (show Below w.heap.size w w2 from step_below hb (by repeat' (first | exact Below.refl _ _ | exact HB1.out | refine below_drewN ?_ _ | refine Below.drew ?_ | refine Below.alloc ?_ (by first | omega | (simp; done) | (simp; omega) | (simp [World.setCell]; omega)) _ | refine Below.setCell ?_ (by first | omega | (simp; done) | (simp; omega)) _ | assumption)))
  have hL2 := Lib.hid (show Below w1.heap.size w1 _ from reads_mid hb (by repeat' (first | exact Below.refl _ _ | refine below_drewN ?_ _ | refine Below.drew ?_ | refine Below.alloc ?_ (by first | omega | (simp; done) | (simp; omega) | (simp [World.setCell]; omega)) _ | refine Below.setCell ?_ (by first | omega | (simp; done) | (simp; omega)) _)))
  have R0_2 := Lib.hid (reads_lay hb hL2.out R0_1.out)
  have R1_2 := Lib.hid (readsT_lay hb hL2.out R1_1.out)
  clear hL2 R0_1 R1_1
  have hz2 := hb.size
  try simp only [World.size_alloc, World.drewN, World.drew] at hz2
  clear hb
  have HT2 : Hid (tblErr t2 = 0) := (tblErr_same (fun r hr' => hr.rlen hr') HLEN.out hm2).trans HTE.out
  have HM2 := Lib.hid hm2
  have hl2 := fun r (hr' : r ∈ t2) => hr.rlen hr'
  have HL2 := Lib.hid hl2
  clear hm2 hl2
  have R2_2 := Lib.hid hr
  clear hr
  go_wp2_with fail
  refine (copied_any A n c _ l _ R0_2.out (Nat.le_refl _) (by omega)).mono ?_
  rintro e w3 ⟨A3, c3, rfl, hb, hr, -⟩
  have HB3 := Lib.hid (show Below w.heap.size w w3 from step_below hb (by repeat' (first | exact Below.refl _ _ | exact HB2.out | refine below_drewN ?_ _ | refine Below.drew ?_ | refine Below.alloc ?_ (by first | omega | (simp; done) | (simp; omega) | (simp [World.setCell]; omega)) _ | refine Below.setCell ?_ (by first | omega | (simp; done) | (simp; omega)) _ | assumption)))
  have hL3 := Lib.hid (show Below w2.heap.size w2 _ from reads_mid hb (by repeat' (first | exact Below.refl _ _ | refine below_drewN ?_ _ | refine Below.drew ?_ | refine Below.alloc ?_ (by first | omega | (simp; done) | (simp; omega) | (simp [World.setCell]; omega)) _ | refine Below.setCell ?_ (by first | omega | (simp; done) | (simp; omega)) _)))
  have R0_3 := Lib.hid (reads_lay hb hL3.out R0_2.out)
  have R1_3 := Lib.hid (readsT_lay hb hL3.out R1_2.out)
  have R2_3 := Lib.hid (readsT_lay hb hL3.out R2_2.out)
  clear hL3 R0_2 R1_2 R2_2
  have hz3 := hb.size
  try simp only [World.size_alloc, World.drewN, World.drew] at hz3
  clear hb
  have R3_3 := Lib.hid hr
  clear hr
  have HD2 := Lib.hid ((deflErr_same (np := ps.length) (wt := wt) (ss := sharesOf l) HL2.out HLEN.out HM2.out).trans HDF.out)
  have HLL2 : Hid (rowsD wt t2 ys = L) := (rowsD_same HM2.out).trans HLL.out
  go_wp2_with fail
  refine (defl_good l hfits A2 nt c2 t2 A3 n c3 wt _ R3_3.out (by omega) R2_3.out (by omega) HT2.out HO.out ps HP.out hpl ys HS.out HD2.out L HLL2.out).mono ?_
  rintro e w4 ⟨hb, A7, c7, rfl, hr⟩
  have HB4 := Lib.hid (show Below w.heap.size w w4 from step_below hb (by repeat' (first | exact Below.refl _ _ | exact HB3.out | refine below_drewN ?_ _ | refine Below.drew ?_ | refine Below.alloc ?_ (by first | omega | (simp; done) | (simp; omega) | (simp [World.setCell]; omega)) _ | refine Below.setCell ?_ (by first | omega | (simp; done) | (simp; omega)) _ | assumption)))
  have hL4 := Lib.hid (show Below w3.heap.size w3 _ from reads_mid hb (by repeat' (first | exact Below.refl _ _ | refine below_drewN ?_ _ | refine Below.drew ?_ | refine Below.alloc ?_ (by first | omega | (simp; done) | (simp; omega) | (simp [World.setCell]; omega)) _ | refine Below.setCell ?_ (by first | omega | (simp; done) | (simp; omega)) _)))
  have R0_4 := Lib.hid (reads_lay hb hL4.out R0_3.out)
  have R1_4 := Lib.hid (readsT_lay hb hL4.out R1_3.out)
  have R2_4 := Lib.hid (readsT_lay hb hL4.out R2_3.out)
  have R3_4 := Lib.hid (reads_lay hb hL4.out R3_3.out)
  clear hL4 R0_3 R1_3 R2_3 R3_3
  have hz4 := hb.size
  try simp only [World.size_alloc, World.drewN, World.drew] at hz4
  clear hb
  have R4_4 := Lib.hid hr
  clear hr
  go_wp2_with fail
  refine (rchecktable_any B nt ct t _ R1_4.out (by omega) 0 HTE.out).mono ?_
  rintro e w5 ⟨rfl, hb⟩
  have HB5 := Lib.hid (show Below w.heap.size w w5 from step_below hb (by repeat' (first | exact Below.refl _ _ | exact HB4.out | refine below_drewN ?_ _ | refine Below.drew ?_ | refine Below.alloc ?_ (by first | omega | (simp; done) | (simp; omega) | (simp [World.setCell]; omega)) _ | refine Below.setCell ?_ (by first | omega | (simp; done) | (simp; omega)) _ | assumption)))
  have hL5 := Lib.hid (show Below w4.heap.size w4 _ from reads_mid hb (by repeat' (first | exact Below.refl _ _ | refine below_drewN ?_ _ | refine Below.drew ?_ | refine Below.alloc ?_ (by first | omega | (simp; done) | (simp; omega) | (simp [World.setCell]; omega)) _ | refine Below.setCell ?_ (by first | omega | (simp; done) | (simp; omega)) _)))
  have R0_5 := Lib.hid (reads_lay hb hL5.out R0_4.out)
  have R1_5 := Lib.hid (readsT_lay hb hL5.out R1_4.out)
  have R2_5 := Lib.hid (readsT_lay hb hL5.out R2_4.out)
  have R3_5 := Lib.hid (reads_lay hb hL5.out R3_4.out)
  have R4_5 := Lib.hid (reads_lay hb hL5.out R4_4.out)
  clear hL5 R0_4 R1_4 R2_4 R3_4 R4_4
  have hz5 := hb.size
  try simp only [World.size_alloc, World.drewN, World.drew] at hz5
  clear hb
  go_wp2_with fail
  refine (copylists_any B nt ct t _ R1_5.out (by omega) hrows).mono ?_
  rintro e w6 ⟨hb, A4, c4, t4, rfl, hm4, hr⟩
  have HB6 := Lib.hid (show Below w.heap.size w w6 from step_below hb (by repeat' (first | exact Below.refl _ _ | exact HB5.out | refine below_drewN ?_ _ | refine Below.drew ?_ | refine Below.alloc ?_ (by first | omega | (simp; done) | (simp; omega) | (simp [World.setCell]; omega)) _ | refine Below.setCell ?_ (by first | omega | (simp; done) | (simp; omega)) _ | assumption)))
  have hL6 := Lib.hid (show Below w5.heap.size w5 _ from reads_mid hb (by repeat' (first | exact Below.refl _ _ | refine below_drewN ?_ _ | refine Below.drew ?_ | refine Below.alloc ?_ (by first | omega | (simp; done) | (simp; omega) | (simp [World.setCell]; omega)) _ | refine Below.setCell ?_ (by first | omega | (simp; done) | (simp; omega)) _)))
  have R0_6 := Lib.hid (reads_lay hb hL6.out R0_5.out)
  have R1_6 := Lib.hid (readsT_lay hb hL6.out R1_5.out)
  have R2_6 := Lib.hid (readsT_lay hb hL6.out R2_5.out)
  have R3_6 := Lib.hid (reads_lay hb hL6.out R3_5.out)
  have R4_6 := Lib.hid (reads_lay hb hL6.out R4_5.out)
  clear hL6 R0_5 R1_5 R2_5 R3_5 R4_5
  have hz6 := hb.size
  try simp only [World.size_alloc, World.drewN, World.drew] at hz6
  clear hb
  have HT4 : Hid (tblErr t4 = 0) := (tblErr_same (fun r hr' => hr.rlen hr') HLEN.out hm4).trans HTE.out
  clear hm4
  have R5_6 := Lib.hid hr
  clear hr
  go_wp2_with fail
  refine (checktable_any A4 nt c4 t4 _ R5_6.out (by omega) 0 HT4.out).mono ?_
  rintro e w7 ⟨rfl, hb⟩
  have HB7 := Lib.hid (show Below w.heap.size w w7 from step_below hb (by repeat' (first | exact Below.refl _ _ | exact HB6.out | refine below_drewN ?_ _ | refine Below.drew ?_ | refine Below.alloc ?_ (by first | omega | (simp; done) | (simp; omega) | (simp [World.setCell]; omega)) _ | refine Below.setCell ?_ (by first | omega | (simp; done) | (simp; omega)) _ | assumption)))
  have hL7 := Lib.hid (show Below w6.heap.size w6 _ from reads_mid hb (by repeat' (first | exact Below.refl _ _ | refine below_drewN ?_ _ | refine Below.drew ?_ | refine Below.alloc ?_ (by first | omega | (simp; done) | (simp; omega) | (simp [World.setCell]; omega)) _ | refine Below.setCell ?_ (by first | omega | (simp; done) | (simp; omega)) _)))
  have R0_7 := Lib.hid (reads_lay hb hL7.out R0_6.out)
  have R1_7 := Lib.hid (readsT_lay hb hL7.out R1_6.out)
  have R2_7 := Lib.hid (readsT_lay hb hL7.out R2_6.out)
  have R3_7 := Lib.hid (reads_lay hb hL7.out R3_6.out)
  have R4_7 := Lib.hid (reads_lay hb hL7.out R4_6.out)
  have R5_7 := Lib.hid (readsT_lay hb hL7.out R5_6.out)
  clear hL7 R0_6 R1_6 R2_6 R3_6 R4_6 R5_6
  have hz7 := hb.size
  try simp only [World.size_alloc, World.drewN, World.drew] at hz7
  clear hb
  go_wp2_with fail
  refine (rchecktree_is l hfits A n c _ 0 HO.out _ R0_7.out (Nat.le_refl _) (by omega) hnc hcm).mono ?_
  rintro e w8 ⟨rfl, hb⟩
  have HB8 := Lib.hid (show Below w.heap.size w w8 from step_below hb (by repeat' (first | exact Below.refl _ _ | exact HB7.out | refine below_drewN ?_ _ | refine Below.drew ?_ | refine Below.alloc ?_ (by first | omega | (simp; done) | (simp; omega) | (simp [World.setCell]; omega)) _ | refine Below.setCell ?_ (by first | omega | (simp; done) | (simp; omega)) _ | assumption)))
  have hL8 := Lib.hid (show Below w7.heap.size w7 _ from reads_mid hb (by repeat' (first | exact Below.refl _ _ | refine below_drewN ?_ _ | refine Below.drew ?_ | refine Below.alloc ?_ (by first | omega | (simp; done) | (simp; omega) | (simp [World.setCell]; omega)) _ | refine Below.setCell ?_ (by first | omega | (simp; done) | (simp; omega)) _)))
  have R0_8 := Lib.hid (reads_lay hb hL8.out R0_7.out)
  have R1_8 := Lib.hid (readsT_lay hb hL8.out R1_7.out)
  have R2_8 := Lib.hid (readsT_lay hb hL8.out R2_7.out)
  have R3_8 := Lib.hid (reads_lay hb hL8.out R3_7.out)
  have R4_8 := Lib.hid (reads_lay hb hL8.out R4_7.out)
  have R5_8 := Lib.hid (readsT_lay hb hL8.out R5_7.out)
  clear hL8 R0_7 R1_7 R2_7 R3_7 R4_7 R5_7
  have hz8 := hb.size
  try simp only [World.size_alloc, World.drewN, World.drew] at hz8
  clear hb
  go_wp2_with fail
  refine (rdefl_good l hfits B nt ct t A n c wt _ R0_8.out (by omega) R1_8.out (by omega) HTE.out HO.out ps HP.out hpl ys HS.out HDF.out L HLL.out).mono ?_
  rintro e w9 ⟨hb, A8, c8, rfl, hr⟩
  have HB9 := Lib.hid (show Below w.heap.size w w9 from step_below hb (by repeat' (first | exact Below.refl _ _ | exact HB8.out | refine below_drewN ?_ _ | refine Below.drew ?_ | refine Below.alloc ?_ (by first | omega | (simp; done) | (simp; omega) | (simp [World.setCell]; omega)) _ | refine Below.setCell ?_ (by first | omega | (simp; done) | (simp; omega)) _ | assumption)))
  have hL9 := Lib.hid (show Below w8.heap.size w8 _ from reads_mid hb (by repeat' (first | exact Below.refl _ _ | refine below_drewN ?_ _ | refine Below.drew ?_ | refine Below.alloc ?_ (by first | omega | (simp; done) | (simp; omega) | (simp [World.setCell]; omega)) _ | refine Below.setCell ?_ (by first | omega | (simp; done) | (simp; omega)) _)))
  have R0_9 := Lib.hid (reads_lay hb hL9.out R0_8.out)
  have R1_9 := Lib.hid (readsT_lay hb hL9.out R1_8.out)
  have R2_9 := Lib.hid (readsT_lay hb hL9.out R2_8.out)
  have R3_9 := Lib.hid (reads_lay hb hL9.out R3_8.out)
  have R4_9 := Lib.hid (reads_lay hb hL9.out R4_8.out)
  have R5_9 := Lib.hid (readsT_lay hb hL9.out R5_8.out)
  clear hL9 R0_8 R1_8 R2_8 R3_8 R4_8 R5_8
  have hz9 := hb.size
  try simp only [World.size_alloc, World.drewN, World.drew] at hz9
  clear hb
  have R6_9 := Lib.hid hr
  clear hr
  go_wp2_with fail
  refine (ranges_same A7 A8 c7 c8 nt L _ _ R4_9.out R6_9.out (by omega)).mono ?_
  rintro e w' ⟨rfl, q, rfl⟩
  go_wp2
  go_ret
  exact ⟨rfl, by repeat' (first | exact Below.refl _ _ | exact HB9.out | refine below_drewN ?_ _ | refine Below.drew ?_ | refine Below.alloc ?_ (by first | omega | (simp; done) | (simp; omega) | (simp [World.setCell]; omega)) _ | refine Below.setCell ?_ (by first | omega | (simp; done) | (simp; omega)) _ | assumption)⟩

end Go.Proofs.Ytoiconebcmneiab

end
