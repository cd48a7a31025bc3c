import Derived.Test.YtdidcpealabaiaaQ16
import Derived.Test.YtdidcpealabaiaaQ15

section
/- Contract of the package's check of potentials. -/
namespace Go.Proofs.Ytdidcpealabaiaa
open Go Go.RowKit

theorem posV_in {m : Mnt} {day : Int} {t : Tgt} {z : Int} (h : z ∈ posV m day t) : m.ls ≤ z ∧ z ≤ m.ms := by
  unfold posV posL at h
  obtain ⟨k, hk, rfl⟩ := List.mem_map.1 h
  obtain ⟨h1, h2, -⟩ := turn_range hk
  exact ⟨h1, h2⟩
theorem fro_in {m : Mnt} {day pos : Int} {l : List Tgt} {i : Nat} (hm : mntErr m = 0) (hp : m.ls ≤ pos ∧ pos ≤ m.ms) : ∀ z ∈ froL m day pos l i, PosR z := by
  obtain ⟨⟨a1, a2, a3, a4⟩, -⟩ := mnt_right hm
  intro z hz
  unfold froL at hz
  unfold PosR
  split at hz
  · obtain rfl : z = pos := by simpa using hz
    omega
  · cases h : l[i - 1]? with
    | none => rw [h] at hz; simp at hz
    | some t =>
      rw [h] at hz
      have := posV_in (show z ∈ posV m day t by simpa using hz)
      omega
theorem small_in {p : List Int} (h : smallL 1000000000000 p = true) : ∀ z ∈ p, -1000000000000 ≤ z ∧ z ≤ 1000000000000 := fun z hz => (withinB_iff _ _ _).1 (List.all_eq_true.1 h z hz)
theorem bef_in {ps : List (List Int)} {i : Nat} (h : RangeOk ps) : ∀ z ∈ befL ps i, -1000000000000 ≤ z ∧ z ≤ 1000000000000 := by
  intro z hz
  unfold befL at hz
  split at hz
  · obtain rfl : z = 0 := by simpa using hz
    omega
  · cases hp : ps[i - 1]? with
    | none => rw [hp] at hz; simp at hz
    | some p =>
      rw [hp] at hz
      exact small_in (h p (List.mem_of_getElem? hp)) z (by simpa using hz)

/-- What is known of two lists that are made. -/
def PfI (a b : List Int) (ci ki : Nat) (i : Nat) (x : Pick2) (w : World) : Prop := (i = ci → Reads w w.heap.size 1 x.1.1 1 (a.map (.int .i64))) ∧ (i = ki → Reads w w.heap.size 1 x.1.1 1 (b.map (.int .i64)))
theorem PfI.stb {a b : List Int} {ci ki : Nat} : Stb (PfI a b ci ki) := fun _ _ _ _ hb h => ⟨fun e => ((h.1 e).below hb).more hb.size, fun e => ((h.2 e).below hb).more hb.size⟩
theorem turns_some {m : Mnt} {day : Int} {l : List Tgt} {i : Nat} {t : Tgt} (h : stepErr m day l i t = 0) : 0 < (turnsV m day t).length := by
  have h2 : (turnsF m t day).2 = 0 := by
    unfold stepErr at h
    split at h
    · exact absurd h ‹_›
    · exact h
  unfold turnsV
  unfold turnsF turnsAt at h2 ⊢
  split at h2
  · exact absurd h2 (by decide)
  · split at h2
    · exact absurd h2 (by decide)
    · rw [if_neg ‹_›, if_neg ‹_›]
      exact List.length_pos_iff.2 ‹_›

set_option maxRecDepth 100000 in
set_option maxHeartbeats 8000000 in
theorem pleast_is (m : Mnt) (day pos : Int) (l : List Tgt) (A : Option Addr) (n c : Nat) (Ap : Option Addr) (np cp : Nat) (tp : List TRow) (C E : Int) (hR : LeastRes m day pos l (tp.map TRow.xs) C E) (w : World) (hx : MntAt m w) (hl : Reads w w.heap.size 6 A n (tgtCells l)) (hn : n ≤ c ∧ c ≤ 9223372036854775807) (hfit : ∀ t ∈ l, t.name.size ≤ maxLen)
    (hk : ReadsT w w.heap.size Ap np tp) (hnp : np ≤ 1000) (hrn : ∀ r ∈ tp, r.n ≤ 1000) (hT0 : (tourF m l day pos).2 = 0) :
    Calls Try.prog 42 #[m.val, .slice A n c, .agg #[.int .i64 day, .int .i64 pos], .slice Ap np cp] w fun e w' => e = .returned (.tuple #[.int .i64 C, .int .i64 E]) ∧ Below w.heap.size w w' := by
  obtain ⟨r1, r2, ⟨r3, r4⟩, r5, -⟩ := tour_right hT0
  obtain ⟨⟨q1, q2, q3, q4⟩, -⟩ := mnt_right r1
  have hll := hl.tlen
  have hkl := hk.len
  obtain ⟨ps, hps⟩ : ∃ z, tp.map TRow.xs = z := ⟨_, rfl⟩
  rw [hps] at hR
  have hpl : ps.length = np := by rw [← hps, List.length_map]; exact hkl
  have hpg : ∀ (i : Nat) (r : TRow), tp[i]? = some r → ps[i]? = some r.xs := fun i r hr => by rw [← hps, List.getElem?_map, hr]; rfl
  have HX := Lib.hid hx
  have HL := Lib.hid hl
  have HK := Lib.hid hk
  have HR := Lib.hid hR
  have HT0 := Lib.hid hT0
  have HLL := Lib.hid hll
  have HPL := Lib.hid hpl
  have HPG := Lib.hid hpg
  have HM := Lib.hid r1
  have HRN := Lib.hid hrn
  have HPOS := Lib.hid (show m.ls ≤ pos ∧ pos ≤ m.ms from ⟨r3, r4⟩)
  have hn20 : n ≤ 20 := by omega
  clear hx hl hk hR hT0 hll hpl hpg hps hkl r1 r2 r3 r4 hrn
  unfold Mnt.val
  go_enter Try.func42, Try.ntmps42
  go_wp2_with fail
  generalize hwn : ((w.alloc (.cells #[.int .i64 (m.ls), .int .i64 (m.ms), .int .i64 (m.lo), .int .i64 (m.hi), .int .i64 (m.sp), .slice m.A1 m.n1 m.c1, .slice m.A2 m.n2 m.c2] 58)).alloc (.cells #[.int .i64 (day), .int .i64 (pos)] 60)) = w1
  have hbn : Below w.heap.size w w1 := by rw [← hwn]; repeat' (first | exact Below.refl _ _ | refine below_drewN ?_ _ | refine Below.drew ?_ | refine Below.alloc ?_ (by first | omega | (simp; done) | (simp; omega) | (simp [World.setCell]; omega)) _ | refine Below.setCell ?_ (by first | omega | (simp; done) | (simp; omega)) _)
  have HB1 := Lib.hid (show Below w.heap.size w w1 from hbn)
  have K0_1 := Lib.hid (show Blk w1 (w.heap.size) 58 #[.int .i64 (m.ls), .int .i64 (m.ms), .int .i64 (m.lo), .int .i64 (m.hi), .int .i64 (m.sp), .slice m.A1 m.n1 m.c1, .slice m.A2 m.n2 m.c2] by rw [← hwn]; repeat' (first | exact Blk.at_ _ (by first | rfl | (simp; done) | (simp; omega)) _ _ | refine Blk.drewN ?_ _ | refine Blk.drew ?_ | refine Blk.alloc ?_ _ | refine Blk.far ?_ (by first | omega | (simp; done) | (simp; omega)) _ | assumption))
  have K1_1 := Lib.hid (show Blk w1 (w.heap.size + 1) 60 #[.int .i64 (day), .int .i64 (pos)] by rw [← hwn]; repeat' (first | exact Blk.at_ _ (by first | rfl | (simp; done) | (simp; omega)) _ _ | refine Blk.drewN ?_ _ | refine Blk.drew ?_ | refine Blk.alloc ?_ _ | refine Blk.far ?_ (by first | omega | (simp; done) | (simp; omega)) _ | assumption))
  have HN1 := Lib.hid hbn
  have hz1 := hbn.size
  clear hwn hbn
  have l0_1 : w.heap.size < w1.heap.size := K0_1.out.lt
  have z0_0_1 : w1.cell? ⟨w.heap.size, 0, none⟩ = some (.int .i64 (m.ls)) := K0_1.out.cell 0
  have z0_1_1 : w1.cell? ⟨w.heap.size, 1, none⟩ = some (.int .i64 (m.ms)) := K0_1.out.cell 1
  have z0_2_1 : w1.cell? ⟨w.heap.size, 2, none⟩ = some (.int .i64 (m.lo)) := K0_1.out.cell 2
  have z0_3_1 : w1.cell? ⟨w.heap.size, 3, none⟩ = some (.int .i64 (m.hi)) := K0_1.out.cell 3
  have z0_4_1 : w1.cell? ⟨w.heap.size, 4, none⟩ = some (.int .i64 (m.sp)) := K0_1.out.cell 4
  have z0_5_1 : w1.cell? ⟨w.heap.size, 5, none⟩ = some (.slice m.A1 m.n1 m.c1) := K0_1.out.cell 5
  have z0_6_1 : w1.cell? ⟨w.heap.size, 6, none⟩ = some (.slice m.A2 m.n2 m.c2) := K0_1.out.cell 6
  have l1_1 : w.heap.size + 1 < w1.heap.size := K1_1.out.lt
  have z1_0_1 : w1.cell? ⟨w.heap.size + 1, 0, none⟩ = some (.int .i64 (day)) := K1_1.out.cell 0
  have z1_1_1 : w1.cell? ⟨w.heap.size + 1, 1, none⟩ = some (.int .i64 (pos)) := K1_1.out.cell 1
  refine (popen_any m day pos l A n c _ (HX.out.lay HB1.out) ((HL.out.below HB1.out).more HB1.out.size) hn hfit).mono ?_
  rintro e w2 ⟨-, hok⟩
  obtain ⟨hb, tb, At, ct, S, rfl, hT⟩ := hok HT0.out
  have hbw2 := step_below hb HB1.out
  have HB2 := Lib.hid hbw2
  have HT := Lib.hid hT
  have HK2 := Lib.hid ((HK.out.below hbw2).more hbw2.size)
  have hblk := hT.blk
  rw [HLL.out] at hblk
  have HBLK := Lib.hid hblk
  clear hb hbw2 hT hblk
  have zt0 := HBLK.out.cell 0
  have zt1 := HBLK.out.cell 1
  have e0 : ((0 : Int) != 0) = false := by decide
  by_cases hnn : np = n
  rotate_left
  · have e1 : ((np : Int) != (n : Int)) = true := by rw [bne_iff_ne]; omega
    obtain ⟨rfl, rfl⟩ := HR.out.shape (fun h => hnn (by have := h.1; rw [HPL.out, HLL.out] at this; exact this))
    go_wp2
    go_ret2
    exact ⟨rfl, HB2.out⟩
  subst hnn
  have e1 : ((np : Int) != (np : Int)) = false := by simp
  go_wp2
  go_loopw [46] (fun i wr => ∃ k : Nat, k ≤ np ∧ i = .int .i64 k ∧ wr = w2 ∧ ∀ (j : Nat) (p : List Int) (t : Tgt), j < k → ps[j]? = some p → l[j]? = some t → p.length = (turnsV m day t).length) (fun i _ => np - (intOf i).toNat)
  case atStart => exact ⟨0, by omega, rfl, by trivial, fun j p t hj => absurd hj (by omega)⟩
  case round =>
    obtain ⟨k, hk, rfl, rfl, hpre⟩ := hrel
    obtain ⟨w2, hnm⟩ : ∃ z : World, z = wr := ⟨_, rfl⟩
    subst hnm
    have HPRE := Lib.hid hpre
    clear hpre
    by_cases hlt : k < np
    · obtain ⟨pb, po, r, rfl, hpb, hr, p0, -, hrl, -⟩ := HK2.out.at_ hlt
      obtain ⟨sb, so, s, hAs, hsb, hs, s6, s7, -⟩ := HT.out.row.stp (show k < l.length by rw [HLL.out]; exact hlt)
      obtain ⟨o1, o2⟩ := HT.out.ok s (List.mem_of_getElem? hs)
      have hts : l[k]? = some s.t := by
        have := congrArg (fun z => z[k]?) HT.out.ts
        simp only [List.getElem?_map, hs, Option.map_some] at this
        exact this.symm
      have hsl := o1.ilen
      have hpk := HPG.out k r hr
      rw [hAs] at zt1
      have hkk : (k : Int) < (np : Int) := by omega
      by_cases hlen : r.n = s.n
      · have e2 : ((r.n : Int) != (s.n : Int)) = false := by rw [hlen]; simp
        have HPK := Lib.hid hpk
        have HTS := Lib.hid hts
        have HLEN := Lib.hid (show r.xs.length = (turnsV m day s.t).length by omega)
        clear hr hrl hs hts hsl hpk o1 o2 hlen
        go_wp2
        go_roundw
        case rel =>
          refine ⟨k + 1, by omega, by go_num, by trivial, fun j p t hj hp ht => ?_⟩
          by_cases hjk : j < k
          · exact HPRE.out j p t hjk hp ht
          · obtain rfl : k = j := by omega
            obtain rfl := Option.some.inj (HPK.out.symm.trans hp)
            obtain rfl := Option.some.inj (HTS.out.symm.trans ht)
            exact HLEN.out
        case measure => simp [intOf]; omega
      · have e2 : ((r.n : Int) != (s.n : Int)) = true := by rw [bne_iff_ne]; omega
        obtain ⟨rfl, rfl⟩ := HR.out.shape (fun h => hlen (by have := h.2 k _ _ hpk hts; omega))
        clear hr hrl hs hts hsl hpk o1 o2 hlen
        go_wp2
        go_ret2
        exact ⟨rfl, HB2.out⟩
    · obtain rfl : np = k := by omega
      have hshape : ShapeOk m day l ps := ⟨by rw [HPL.out, HLL.out], fun i p t hp ht => HPRE.out i p t (by have := (List.getElem?_eq_some_iff.1 hp).1; rw [HPL.out] at this; exact this) hp ht⟩
      have HSH := Lib.hid hshape
      clear hshape
      go_wp2
      go_loopw [66] (fun i wr => ∃ k : Nat, k ≤ np ∧ i = .int .i64 k ∧ Below w2.heap.size w2 wr ∧ ∀ (j : Nat) (p : List Int), j < k → ps[j]? = some p → smallL 1000000000000 p = true) (fun i _ => np - (intOf i).toNat)
      case atStart => exact ⟨0, by omega, rfl, Below.refl _ _, fun j p hj => absurd hj (by omega)⟩
      case round =>
        obtain ⟨k, hk, rfl, hb3, hpre⟩ := hrel
        obtain ⟨w3, hnm⟩ : ∃ z : World, z = wr := ⟨_, rfl⟩
        subst hnm
        have HPRE2 := Lib.hid hpre
        have HB3 := Lib.hid hb3
        have hk3 := (HK2.out.below hb3).more hb3.size
        have hblk3 := HBLK.out.below hb3 HBLK.out.lt
        clear hpre hb3
        by_cases hlt2 : k < np
        · obtain ⟨pb, po, r, rfl, hpb, hr, p0, -, hrl, hrr⟩ := hk3.at_ hlt2
          have hpk := HPG.out k r hr
          have hr1 := HRN.out r (List.mem_of_getElem? hr)
          have hkk : (k : Int) < (np : Int) := by omega
          obtain ⟨b, hb⟩ : ∃ b, smallL 1000000000000 r.xs = b := ⟨_, rfl⟩
          have HSB := Lib.hid hb
          have HPK := Lib.hid hpk
          have HRR := Lib.hid hrr
          cases b
          · obtain ⟨rfl, rfl⟩ := HR.out.range HSH.out (fun h => by have := h _ (List.mem_of_getElem? hpk); rw [hb] at this; cases this)
            clear hr hrl hpk hb hrr hk3
            go_wp2_with fail
            refine (smallpt_is 1000000000000 r.A r.n r.c _ r.xs false HSB.out _ (by omega) (by omega) HRR.out (Nat.le_refl _) (by omega)).mono ?_
            rintro e w4 ⟨rfl, hb4⟩
            have HB4 := Lib.hid (step_below hb4 (HB2.out.trans (HB3.out.mono HB2.out.size)))
            clear hb4
            go_wp2
            go_ret2
            exact ⟨rfl, HB4.out⟩
          · clear hr hrl hpk hb hrr hk3
            go_wp2_with fail
            refine (smallpt_is 1000000000000 r.A r.n r.c _ r.xs true HSB.out _ (by omega) (by omega) HRR.out (Nat.le_refl _) (by omega)).mono ?_
            rintro e w4 ⟨rfl, hb4⟩
            have HB4 := Lib.hid (step_below hb4 HB3.out)
            clear hb4
            go_wp2
            go_roundw
            case rel =>
              refine ⟨k + 1, by omega, by go_num, HB4.out, fun j p hj hp => ?_⟩
              by_cases hjk : j < k
              · exact HPRE2.out j p hjk hp
              · obtain rfl : k = j := by omega
                obtain rfl := Option.some.inj (HPK.out.symm.trans hp)
                exact HSB.out
            case measure => simp [intOf]; omega
        · obtain rfl : np = k := by omega
          have hrange : RangeOk ps := fun p hp => by
            obtain ⟨j, hj⟩ := List.getElem?_of_mem hp
            exact HPRE2.out j p (by have := (List.getElem?_eq_some_iff.1 hj).1; rw [HPL.out] at this; exact this) hj
          have HRG := Lib.hid hrange
          clear hrange
          go_wp2
          apply share (Fact := fun (x z : Pick2) (wz : World) => Below w3.heap.size w3 wz ∧ Reads wz wz.heap.size 1 x.1.1 1 (([0] : List Int).map (.int .i64)) ∧ Reads wz wz.heap.size 1 z.1.1 1 (([pos] : List Int).map (.int .i64)))
          · intro key
            refine Fx.regionM (fun W g f w' => Kp (PfI [0] [pos] 0 5) W g w') (fun i (x : Pick2) => .slice x.1.1 1 1) (by kernel_rfl) ?_ ?_
            · intro f hf0
              exact Kp.start
            first
            | (refine Fx.WM.skip 1 (by rfl) (by kernel_rfl) (by kernel_rfl) (by kernel_rfl) (by rfl) (fun g f w h => h) ?_; simp only [Act.put, List.setIfInBounds_toArray, List.set_cons_zero, List.set_cons_succ])
            | (refine Fx.WM.val_ 1 ?_ (by rfl) (by kernel_rfl) (by kernel_rfl) (by kernel_rfl) (by rfl) ?_ (fun g f w h => h) ?_
               rotate_left
               · intro g f w' hx hD hk
                 obtain hkp := id hD
                 clear hx hk hD hkp
                 go_simp
                 try rfl
               simp only [Act.put, List.setIfInBounds_toArray, List.set_cons_zero, List.set_cons_succ])
            first
            | (refine Fx.WM.skip 2 (by rfl) (by kernel_rfl) (by kernel_rfl) (by kernel_rfl) (by rfl) (fun g f w h => h) ?_; simp only [Act.put, List.setIfInBounds_toArray, List.set_cons_zero, List.set_cons_succ])
            | (refine Fx.WM.val_ 2 ?_ (by rfl) (by kernel_rfl) (by kernel_rfl) (by kernel_rfl) (by rfl) ?_ (fun g f w h => h) ?_
               rotate_left
               · intro g f w' hx hD hk
                 obtain hkp := id hD
                 clear hx hk hD hkp
                 go_simp
                 try rfl
               simp only [Act.put, List.setIfInBounds_toArray, List.set_cons_zero, List.set_cons_succ])
            first
            | (refine Fx.WM.skip 3 (by rfl) (by kernel_rfl) (by kernel_rfl) (by kernel_rfl) (by rfl) (fun g f w h => h) ?_; simp only [Act.put, List.setIfInBounds_toArray, List.set_cons_zero, List.set_cons_succ])
            | (refine Fx.WM.val_ 3 ?_ (by rfl) (by kernel_rfl) (by kernel_rfl) (by kernel_rfl) (by rfl) ?_ (fun g f w h => h) ?_
               rotate_left
               · intro g f w' hx hD hk
                 obtain hkp := id hD
                 clear hx hk hD hkp
                 go_simp
                 try rfl
               simp only [Act.put, List.setIfInBounds_toArray, List.set_cons_zero, List.set_cons_succ])
            first
            | (refine Fx.WM.skip 4 (by rfl) (by kernel_rfl) (by kernel_rfl) (by kernel_rfl) (by rfl) (fun g f w h => h) ?_; simp only [Act.put, List.setIfInBounds_toArray, List.set_cons_zero, List.set_cons_succ])
            | (refine Fx.WM.val_ 4 ?_ (by rfl) (by kernel_rfl) (by kernel_rfl) (by kernel_rfl) (by rfl) ?_ (fun g f w h => h) ?_
               rotate_left
               · intro g f w' hx hD hk
                 obtain hkp := id hD
                 have yt := (Blk.below hblk3 hkp.bel hblk3.lt).cell 0
                 clear hx hk hD hkp
                 go_simp
                 try rfl
               simp only [Act.put, List.setIfInBounds_toArray, List.set_cons_zero, List.set_cons_succ])
            refine Fx.WM.choose2 0 5 (by rfl) (by rfl) (by kernel_rfl) (by rfl) (by rfl) ?_ ?_ ?_ ?_
            · skip
              refine Fx.Chooses.make (by rfl) ?_
              intro f w' hD hk
              refine ⟨((some ⟨w'.heap.size, 0, none⟩, 1), (none, 0)), w'.alloc (.cells #[.int .i64 (0)] 3), ?_, ?_⟩
              · clear hk hD
                go_simp
                try rfl
              · exact hD.choose PfI.stb ((Below.refl _ _).alloc (Nat.le_refl _) _) 0 _ ⟨fun _ => Blk.reads (Blk.new _ _ _) rfl, fun e => absurd e (by decide)⟩
            · skip
              refine Fx.Chooses.make (by rfl) ?_
              intro f w' hD hk
              refine ⟨((some ⟨w'.heap.size, 0, none⟩, 1), (none, 0)), w'.alloc (.cells #[.int .i64 (pos)] 3), ?_, ?_⟩
              · clear hk hD
                go_simp
                try rfl
              · exact hD.choose PfI.stb ((Below.refl _ _).alloc (Nat.le_refl _) _) 5 _ ⟨fun e => absurd e (by decide), fun _ => Blk.reads (Blk.new _ _ _) rfl⟩
            · intro x
              simp only [Act.put, List.setIfInBounds_toArray, List.set_cons_zero, List.set_cons_succ]
              first
              | (refine Fx.WM.skip 6 (by rfl) (by kernel_rfl) (by kernel_rfl) (by kernel_rfl) (by rfl) (fun g f w h => h) ?_; simp only [Act.put, List.setIfInBounds_toArray, List.set_cons_zero, List.set_cons_succ])
              | (refine Fx.WM.val_ 6 ?_ (by rfl) (by kernel_rfl) (by kernel_rfl) (by kernel_rfl) (by rfl) ?_ (fun g f w h => h) ?_
                 rotate_left
                 · intro g f w' hx hD hk
                   obtain hkp := id hD
                   clear hx hk hD hkp
                   go_simp
                   try rfl
                 simp only [Act.put, List.setIfInBounds_toArray, List.set_cons_zero, List.set_cons_succ])
              refine Fx.WM.choose 5 (by rfl) (by kernel_rfl) (by rfl) ?_ ?_
              · skip
                refine Fx.Chooses.make (by rfl) ?_
                intro f w' hD hk
                refine ⟨((some ⟨w'.heap.size, 0, none⟩, 1), (none, 0)), w'.alloc (.cells #[.int .i64 (pos)] 3), ?_, ?_⟩
                · clear hk hD
                  go_simp
                  try rfl
                · exact hD.choose PfI.stb ((Below.refl _ _).alloc (Nat.le_refl _) _) 5 _ ⟨fun e => absurd e (by decide), fun _ => Blk.reads (Blk.new _ _ _) rfl⟩
              intro z
              simp only [Act.put, List.setIfInBounds_toArray, List.set_cons_zero, List.set_cons_succ]
              first
              | (refine Fx.WM.skip 7 (by rfl) (by kernel_rfl) (by kernel_rfl) (by kernel_rfl) (by rfl) (fun g f w h => h) ?_; simp only [Act.put, List.setIfInBounds_toArray, List.set_cons_zero, List.set_cons_succ])
              | (refine Fx.WM.val_ 7 ?_ (by rfl) (by kernel_rfl) (by kernel_rfl) (by kernel_rfl) (by rfl) ?_ (fun g f w h => h) ?_
                 rotate_left
                 · intro g f w' hx hD hk
                   obtain hkp := id hD
                   clear hx hk hD hkp
                   go_simp
                   try rfl
                 simp only [Act.put, List.setIfInBounds_toArray, List.set_cons_zero, List.set_cons_succ])
              refine Fx.WM.nil (by kernel_rfl) ?_
              intro wz hkp
              exact key x z wz ⟨hkp.bel, (hkp.has 0 x (by rfl)).1 rfl, (hkp.has 5 z (by rfl)).2 rfl⟩
            · intro z
              simp only [Act.put, List.setIfInBounds_toArray, List.set_cons_zero, List.set_cons_succ]
              refine Fx.WM.choose 0 (by rfl) (by kernel_rfl) (by rfl) ?_ ?_
              · skip
                refine Fx.Chooses.make (by rfl) ?_
                intro f w' hD hk
                refine ⟨((some ⟨w'.heap.size, 0, none⟩, 1), (none, 0)), w'.alloc (.cells #[.int .i64 (0)] 3), ?_, ?_⟩
                · clear hk hD
                  go_simp
                  try rfl
                · exact hD.choose PfI.stb ((Below.refl _ _).alloc (Nat.le_refl _) _) 0 _ ⟨fun _ => Blk.reads (Blk.new _ _ _) rfl, fun e => absurd e (by decide)⟩
              intro x
              simp only [Act.put, List.setIfInBounds_toArray, List.set_cons_zero, List.set_cons_succ]
              first
              | (refine Fx.WM.skip 6 (by rfl) (by kernel_rfl) (by kernel_rfl) (by kernel_rfl) (by rfl) (fun g f w h => h) ?_; simp only [Act.put, List.setIfInBounds_toArray, List.set_cons_zero, List.set_cons_succ])
              | (refine Fx.WM.val_ 6 ?_ (by rfl) (by kernel_rfl) (by kernel_rfl) (by kernel_rfl) (by rfl) ?_ (fun g f w h => h) ?_
                 rotate_left
                 · intro g f w' hx hD hk
                   obtain hkp := id hD
                   clear hx hk hD hkp
                   go_simp
                   try rfl
                 simp only [Act.put, List.setIfInBounds_toArray, List.set_cons_zero, List.set_cons_succ])
              first
              | (refine Fx.WM.skip 7 (by rfl) (by kernel_rfl) (by kernel_rfl) (by kernel_rfl) (by rfl) (fun g f w h => h) ?_; simp only [Act.put, List.setIfInBounds_toArray, List.set_cons_zero, List.set_cons_succ])
              | (refine Fx.WM.val_ 7 ?_ (by rfl) (by kernel_rfl) (by kernel_rfl) (by kernel_rfl) (by rfl) ?_ (fun g f w h => h) ?_
                 rotate_left
                 · intro g f w' hx hD hk
                   obtain hkp := id hD
                   clear hx hk hD hkp
                   go_simp
                   try rfl
                 simp only [Act.put, List.setIfInBounds_toArray, List.set_cons_zero, List.set_cons_succ])
              refine Fx.WM.nil (by kernel_rfl) ?_
              intro wz hkp
              exact key x z wz ⟨hkp.bel, (hkp.has 0 x (by rfl)).1 rfl, (hkp.has 5 z (by rfl)).2 rfl⟩
          rintro x z w4 ⟨hb4, ha, hf⟩
          have HB24 := Lib.hid (HB3.out.trans (hb4.mono HB3.out.size))
          have HA := Lib.hid ha
          have HF := Lib.hid hf
          clear hb4 ha hf hk3 hblk3
          go_wp2
          go_loopw [17, 18, 82] (fun b f i wr => ∃ (k q : Nat) (Ab : Option Addr) (cb : Nat) (Af : Option Addr) (cf : Nat), k ≤ np ∧ q ≤ 1000 ∧ i = .int .i64 k ∧ b = .slice Ab q cb ∧ f = .slice Af q cf ∧ Below w2.heap.size w2 wr ∧ Reads wr wr.heap.size 1 Ab q ((befL ps k).map (.int .i64)) ∧ Reads wr wr.heap.size 1 Af q ((froL m day pos l k).map (.int .i64)) ∧ ∀ j, j < k → ProofAt m day pos l ps j) (fun _ _ i _ => np - (intOf i).toNat)
          case atStart => exact ⟨0, 1, x.1.1, 1, z.1.1, 1, by omega, by omega, rfl, rfl, rfl, HB24.out, HA.out, HF.out, fun j hj => absurd hj (by omega)⟩
          case round =>
            obtain ⟨k, q, Ab, cb, Af, cf, hk, hq1, rfl, rfl, rfl, hb5, hab, haf, hpre⟩ := hrel
            obtain ⟨w5, hnm⟩ : ∃ z : World, z = wr := ⟨_, rfl⟩
            subst hnm
            have HPR := Lib.hid hpre
            have HB5 := Lib.hid hb5
            have HAB := Lib.hid hab
            have HAF := Lib.hid haf
            have hk5 := (HK2.out.below hb5).more hb5.size
            have hT5 := HT.out.lay hb5
            have hblk5 := HBLK.out.below hb5 HBLK.out.lt
            have HBW5 := Lib.hid (HB2.out.trans (hb5.mono HB2.out.size))
            clear hpre hb5 hab haf
            by_cases hlt3 : k < np
            · obtain ⟨pb, po, r, rfl, hpb, hr, p0, -, hrl, hrr⟩ := hk5.at_ hlt3
              obtain ⟨sb, so, s, hAs, hsb, hs, s6, s7, -⟩ := hT5.row.stp (show k < l.length by rw [HLL.out]; exact hlt3)
              obtain ⟨o1, o2⟩ := hT5.ok s (List.mem_of_getElem? hs)
              have hts : l[k]? = some s.t := by
                have := congrArg (fun z => z[k]?) hT5.ts
                simp only [List.getElem?_map, hs, Option.map_some] at this
                exact this.symm
              have hpk := HPG.out k r hr
              have hlen := HSH.out.2 k _ _ hpk hts
              have hsl := o1.ilen
              have hzr := small_in (HRG.out _ (List.mem_of_getElem? hpk))
              have hsn1 := HRN.out r (List.mem_of_getElem? hr)
              subst hAs
              have zt := hblk5.cell 1
              obtain ⟨st, sA, sn, sc, sA', sc'⟩ := s
              obtain ⟨rA, rn, rc, rx⟩ := r
              simp only at s6 s7 p0 hrl hrr o1 o2 hts hpk hlen hsl hzr hsn1
              obtain rfl : sn = rn := by omega
              have HPK := Lib.hid hpk
              have HTS := Lib.hid hts
              have HO2 := Lib.hid o2
              have HRX := Lib.hid hrr
              have HZR := Lib.hid hzr
              have hkk : (k : Int) < (np : Int) := by omega
              clear hr hs hts hpk hlen hsl hzr hrr o1 o2 hrl
              go_wp2
              go_loopw [96] (fun i wr => ∃ j : Nat, j ≤ sn ∧ i = .int .i64 j ∧ Below w5.heap.size w5 wr ∧ ∀ (j' : Nat) (z to : Int), j' < j → rx[j']? = some z → (posV m day st)[j']? = some to → ∀ (n' : Nat) (b a : Int), (befL ps k)[n']? = some b → (froL m day pos l k)[n']? = some a → z ≤ b + costF a to) (fun i _ => sn - (intOf i).toNat)
              case atStart => exact ⟨0, by omega, rfl, Below.refl _ _, fun j' z to hj => absurd hj (by omega)⟩
              case round =>
                obtain ⟨j, hj, rfl, hb6, hpre⟩ := hrel
                obtain ⟨w6, hnm⟩ : ∃ z : World, z = wr := ⟨_, rfl⟩
                subst hnm
                have HPRJ := Lib.hid hpre
                have HC6 := Lib.hid hb6
                have HBW6 := Lib.hid (HBW5.out.trans (hb6.mono HBW5.out.size))
                have ho6 := (HO2.out.below hb6).more hb6.size
                have hz6 := hb6.size
                clear hpre hb6
                by_cases hlt4 : j < sn
                · obtain ⟨ob, oo, to, rfl, hob, hto, t0⟩ := ho6.int_ hlt4
                  obtain ⟨rb, ro, z, rfl, hrb, hz, r0⟩ := HRX.out.int_ hlt4
                  have hjj : (j : Int) < (sn : Int) := by omega
                  have htr := posV_in (List.mem_of_getElem? hto)
                  have hptr : PosR to := by unfold PosR; omega
                  have hzr := HZR.out z (List.mem_of_getElem? hz)
                  have HTO := Lib.hid hto
                  have HZ := Lib.hid hz
                  have HPT := Lib.hid hptr
                  clear hto hz hptr htr
                  go_wp2
                  go_loopw [103] (fun i wr => ∃ h : Nat, h ≤ q ∧ i = .int .i64 h ∧ Below w6.heap.size w6 wr ∧ ∀ (n' : Nat) (b a : Int), n' < h → (befL ps k)[n']? = some b → (froL m day pos l k)[n']? = some a → z ≤ b + costF a to) (fun i _ => q - (intOf i).toNat)
                  case atStart => exact ⟨0, by omega, rfl, Below.refl _ _, fun n' b a hj => absurd hj (by omega)⟩
                  case round =>
                    obtain ⟨h, hh, rfl, hb7, hpre⟩ := hrel
                    obtain ⟨w7, hnm⟩ : ∃ z : World, z = wr := ⟨_, rfl⟩
                    subst hnm
                    have HPRH := Lib.hid hpre
                    have HC7 := Lib.hid hb7
                    have hbw7 := HBW6.out.trans (hb7.mono HBW6.out.size)
                    have hb57 := HC6.out.trans (hb7.mono HC6.out.size)
                    have hab7 := (HAB.out.below hb57).more hb57.size
                    have haf7 := (HAF.out.below hb57).more hb57.size
                    have r1 := (hb57.cell (p := ⟨rb, ro + j, none⟩) hrb).trans r0
                    have hrb7 := Nat.lt_of_lt_of_le hrb hb57.size
                    clear hpre hb7 hb57
                    by_cases hlt5 : h < q
                    · obtain ⟨ab, ao, b, rfl, hab, hb, a0⟩ := hab7.int_ hlt5
                      obtain ⟨fb, fo, a, rfl, hfb, ha, f0⟩ := haf7.int_ hlt5
                      have hbr := bef_in HRG.out b (List.mem_of_getElem? hb)
                      have har := fro_in HM.out HPOS.out a (List.mem_of_getElem? ha)
                      obtain ⟨v, hv⟩ : ∃ v, costF a to = v := ⟨_, rfl⟩
                      have hcb := cost_bound har HPT.out
                      rw [hv] at hcb
                      have v3 := IntWalk.i64_in (b + v) ⟨by omega, by omega⟩
                      have hhq : (h : Int) < (q : Int) := by omega
                      have HV := Lib.hid hv
                      have HAR := Lib.hid har
                      have HBB := Lib.hid hb
                      have HAA := Lib.hid ha
                      clear hv har hb ha hcb hbr
                      by_cases hbad : b + v < z
                      · have e2 : decide (b + v < z) = true := decide_eq_true hbad
                        obtain ⟨rfl, rfl⟩ := HR.out.proof HSH.out HRG.out (fun hp => by
                          have := hp k _ _ HPK.out HTS.out j z to HZ.out HTO.out h b a HBB.out HAA.out
                          rw [HV.out] at this
                          omega)
                        clear hbad
                        go_wp2_with fail
                        have HB7 := Lib.hid hbw7
                        clear hbw7
                        refine Fx.regionW (fun W f w' => Below W.heap.size W w') (by kernel_rfl) (by kernel_rfl) ?_ ?_
                        · intro f hf0
                          exact below_drewN (Below.refl _ _) 1
                        repeat (first
                          | (refine Fx.skip_ (by rfl) (fun f w h => h) ?_; simp only [Act.put, List.setIfInBounds_toArray, List.set_cons_zero, List.set_cons_succ])
                          | (refine Fx.val_ ?_ (by rfl) ?_ (fun f w h => h) ?_
                             rotate_left
                             · intro f w' hD hk
                               have hb := hD
                               have x7 := (hb.cell (p := ⟨rb, ro + j, none⟩) hrb7).trans r1
                               have x8 := (hb.cell (p := ⟨ab, ao + h, none⟩) hab).trans a0
                               clear hk hD hb
                               go_simp
                               try rfl
                             simp only [Act.put, List.setIfInBounds_toArray, List.set_cons_zero, List.set_cons_succ]))
                        refine Fx.call_ (.int .i64 (v)) ?_ ?_ (by rfl) ?_ ?_ ?_
                        rotate_left 2
                        · intro w'
                          go_simp
                          refine ⟨?_, ?_⟩ <;> rfl
                        · intro f w' hD hk
                          exact (costpt_is a to v HV.out _ HAR.out HPT.out).mono fun e w'' ⟨he, hw⟩ => ⟨he, hw ▸ hD⟩
                        simp only [Act.put, List.setIfInBounds_toArray, List.set_cons_zero, List.set_cons_succ]
                        repeat (first
                          | (refine Fx.skip_ (by rfl) (fun f w h => h) ?_; simp only [Act.put, List.setIfInBounds_toArray, List.set_cons_zero, List.set_cons_succ])
                          | (refine Fx.val_ ?_ (by rfl) ?_ (fun f w h => h) ?_
                             rotate_left
                             · intro f w' hD hk
                               have hb := hD
                               have x7 := (hb.cell (p := ⟨rb, ro + j, none⟩) hrb7).trans r1
                               have x8 := (hb.cell (p := ⟨ab, ao + h, none⟩) hab).trans a0
                               clear hk hD hb
                               go_simp
                               try rfl
                             simp only [Act.put, List.setIfInBounds_toArray, List.set_cons_zero, List.set_cons_succ]))
                        refine Fx.nil_ ?_
                        intro f w8 hall hb
                        try clear hall
                        have HB78 := Lib.hid hb
                        have HB8 := Lib.hid (show Below w.heap.size w w8 from step_below hb (by repeat' (first | exact Below.refl _ _ | exact HB7.out | refine below_drewN ?_ _ | refine Below.drew ?_ | refine Below.alloc ?_ (by first | omega | (simp; done) | (simp; omega) | (simp [World.setCell]; omega)) _ | refine Below.setCell ?_ (by first | omega | (simp; done) | (simp; omega)) _ | assumption)))
                        have hz8 := hb.size
                        try simp only [World.size_alloc, World.drewN, World.drew] at hz8
                        clear hb
                        go_wp2
                        go_ret2
                        exact ⟨rfl, HB8.out⟩
                      · have e2 : decide (b + v < z) = false := decide_eq_false hbad
                        have HNB := Lib.hid hbad
                        clear hbad
                        go_wp2_with fail
                        have HB7 := Lib.hid hbw7
                        clear hbw7
                        refine Fx.regionW (fun W f w' => Below W.heap.size W w') (by kernel_rfl) (by kernel_rfl) ?_ ?_
                        · intro f hf0
                          exact below_drewN (Below.refl _ _) 1
                        repeat (first
                          | (refine Fx.skip_ (by rfl) (fun f w h => h) ?_; simp only [Act.put, List.setIfInBounds_toArray, List.set_cons_zero, List.set_cons_succ])
                          | (refine Fx.val_ ?_ (by rfl) ?_ (fun f w h => h) ?_
                             rotate_left
                             · intro f w' hD hk
                               have hb := hD
                               have x7 := (hb.cell (p := ⟨rb, ro + j, none⟩) hrb7).trans r1
                               have x8 := (hb.cell (p := ⟨ab, ao + h, none⟩) hab).trans a0
                               clear hk hD hb
                               go_simp
                               try rfl
                             simp only [Act.put, List.setIfInBounds_toArray, List.set_cons_zero, List.set_cons_succ]))
                        refine Fx.call_ (.int .i64 (v)) ?_ ?_ (by rfl) ?_ ?_ ?_
                        rotate_left 2
                        · intro w'
                          go_simp
                          refine ⟨?_, ?_⟩ <;> rfl
                        · intro f w' hD hk
                          exact (costpt_is a to v HV.out _ HAR.out HPT.out).mono fun e w'' ⟨he, hw⟩ => ⟨he, hw ▸ hD⟩
                        simp only [Act.put, List.setIfInBounds_toArray, List.set_cons_zero, List.set_cons_succ]
                        repeat (first
                          | (refine Fx.skip_ (by rfl) (fun f w h => h) ?_; simp only [Act.put, List.setIfInBounds_toArray, List.set_cons_zero, List.set_cons_succ])
                          | (refine Fx.val_ ?_ (by rfl) ?_ (fun f w h => h) ?_
                             rotate_left
                             · intro f w' hD hk
                               have hb := hD
                               have x7 := (hb.cell (p := ⟨rb, ro + j, none⟩) hrb7).trans r1
                               have x8 := (hb.cell (p := ⟨ab, ao + h, none⟩) hab).trans a0
                               clear hk hD hb
                               go_simp
                               try rfl
                             simp only [Act.put, List.setIfInBounds_toArray, List.set_cons_zero, List.set_cons_succ]))
                        refine Fx.nil_ ?_
                        intro f w8 hall hb
                        try clear hall
                        have HB78 := Lib.hid hb
                        have HB8 := Lib.hid (show Below w.heap.size w w8 from step_below hb (by repeat' (first | exact Below.refl _ _ | exact HB7.out | refine below_drewN ?_ _ | refine Below.drew ?_ | refine Below.alloc ?_ (by first | omega | (simp; done) | (simp; omega) | (simp [World.setCell]; omega)) _ | refine Below.setCell ?_ (by first | omega | (simp; done) | (simp; omega)) _ | assumption)))
                        have hz8 := hb.size
                        try simp only [World.size_alloc, World.drewN, World.drew] at hz8
                        clear hb
                        go_wp2
                        go_roundw
                        case rel =>
                          refine ⟨h + 1, by omega, by go_num, HC7.out.trans (HB78.out.mono HC7.out.size), fun n' b' a' hn' hb' ha' => ?_⟩
                          by_cases e : n' < h
                          · exact HPRH.out n' b' a' e hb' ha'
                          · obtain rfl : h = n' := by omega
                            obtain rfl := Option.some.inj (HBB.out.symm.trans hb')
                            obtain rfl := Option.some.inj (HAA.out.symm.trans ha')
                            rw [HV.out]
                            have := HNB.out
                            omega
                        case measure => simp [intOf]; omega
                    · obtain rfl : q = h := by omega
                      go_wp2
                      go_roundw
                      case rel =>
                        refine ⟨j + 1, by omega, by go_num, HC6.out.trans (HC7.out.mono HC6.out.size), fun j' z' to' hj' hz' hto' n' b' a' hb' ha' => ?_⟩
                        by_cases e : j' < j
                        · exact HPRJ.out j' z' to' e hz' hto' n' b' a' hb' ha'
                        · obtain rfl : j = j' := by omega
                          obtain rfl := Option.some.inj (HZ.out.symm.trans hz')
                          obtain rfl := Option.some.inj (HTO.out.symm.trans hto')
                          refine HPRH.out n' b' a' ?_ hb' ha'
                          have h1 := (List.getElem?_eq_some_iff.1 hb').1
                          have h2 := HAB.out.ilen
                          omega
                      case measure => simp [intOf]; omega
                · obtain rfl : sn = j := by omega
                  have hpa : ProofAt m day pos l ps k := fun p t hp ht k' z' to' hz' hto' n' b' a' hb' ha' => by
                    obtain rfl := Option.some.inj (HPK.out.symm.trans hp)
                    obtain rfl := Option.some.inj (HTS.out.symm.trans ht)
                    refine HPRJ.out k' z' to' ?_ hz' hto' n' b' a' hb' ha'
                    have h1 := (List.getElem?_eq_some_iff.1 hz').1
                    have h2 := HRX.out.ilen
                    omega
                  have HPA := Lib.hid hpa
                  have zt6 := (HC6.out.cell (p := ⟨tb, 1, none⟩) (by show tb < _; exact hblk5.lt)).trans zt
                  have s76 := (HC6.out.cell (p := ⟨sb, so + k * 8 + 7, none⟩) hsb).trans s7
                  have hbw6 := HBW6.out
                  have hsb6 : sb < w6.heap.size := by omega
                  have htb6 : tb < w6.heap.size := by have := hblk5.lt; omega
                  clear hpa
                  go_wp2_with fail
                  have HB6 := Lib.hid hbw6
                  clear hbw6
                  refine Fx.regionW (fun W f w' => Below W.heap.size W w') (by kernel_rfl) (by kernel_rfl) ?_ ?_
                  · intro f hf0
                    exact below_drewN (Below.refl _ _) 1
                  repeat (first
                    | (refine Fx.skip_ (by rfl) (fun f w h => h) ?_; simp only [Act.put, List.setIfInBounds_toArray, List.set_cons_zero, List.set_cons_succ])
                    | (refine Fx.val_ ?_ (by rfl) ?_ (fun f w h => h) ?_
                       rotate_left
                       · intro f w' hD hk
                         have hb := hD
                         have x7 := (hb.cell (p := ⟨tb, 1, none⟩) htb6).trans zt6
                         have x8 := (hb.cell (p := ⟨sb, so + k * 8 + 7, none⟩) hsb6).trans s76
                         clear hk hD hb
                         go_simp
                         try rfl
                       simp only [Act.put, List.setIfInBounds_toArray, List.set_cons_zero, List.set_cons_succ]))
                  refine Fx.nil_ ?_
                  intro f w7 hall hb
                  try clear hall
                  have HB67 := Lib.hid hb
                  have HB7 := Lib.hid (show Below w.heap.size w w7 from step_below hb (by repeat' (first | exact Below.refl _ _ | exact HB6.out | refine below_drewN ?_ _ | refine Below.drew ?_ | refine Below.alloc ?_ (by first | omega | (simp; done) | (simp; omega) | (simp [World.setCell]; omega)) _ | refine Below.setCell ?_ (by first | omega | (simp; done) | (simp; omega)) _ | assumption)))
                  have hz7 := hb.size
                  try simp only [World.size_alloc, World.drewN, World.drew] at hz7
                  clear hb
                  have hb57 := HC6.out.trans (HB67.out.mono HC6.out.size)
                  have hbe := (HRX.out.below hb57).more hb57.size
                  have hfe := (HO2.out.below hb57).more hb57.size
                  rw [← befL_succ HPK.out] at hbe
                  have hfe : Reads w7 w7.heap.size 1 sA' sn ((froL m day pos l (k + 1)).map (.int .i64)) := by rw [froL_succ HTS.out]; exact hfe
                  have HBE := Lib.hid hbe
                  have HFE := Lib.hid hfe
                  have HB27 := Lib.hid (HB5.out.trans (hb57.mono HB5.out.size))
                  clear hb57 hbe hfe zt6 s76
                  go_wp2
                  go_roundw
                  case rel =>
                    refine ⟨k + 1, sn, rA, rc, sA', sc', by omega, by omega, by go_num, rfl, rfl, HB27.out, HBE.out, HFE.out, fun j hj => ?_⟩
                    by_cases e : j < k
                    · exact HPR.out j e
                    · obtain rfl : k = j := by omega
                      exact HPA.out
                  case measure => simp [intOf]; omega
            · obtain rfl : np = k := by omega
              have hproof : ProofOk m day pos l ps := fun i => by
                by_cases hi : i < np
                · exact HPR.out i hi
                · intro p t hp
                  have := (List.getElem?_eq_some_iff.1 hp).1
                  rw [HPL.out] at this
                  omega
              obtain ⟨rfl, rfl⟩ := HR.out.ok HSH.out HRG.out hproof
              have hq0 : 0 < q := by
                have h1 := HAF.out.ilen
                unfold froL at h1
                by_cases hz : np = 0
                · rw [if_pos hz] at h1; simp at h1; omega
                · rw [if_neg hz, List.getElem?_eq_getElem (by rw [HLL.out]; omega)] at h1
                  have h2 := (tour_right HT0.out).2.2.2.2 (np - 1) _ (List.getElem?_eq_getElem (by rw [HLL.out]; omega))
                  have h3 := turns_some h2
                  simp only [Option.map_some, Option.getD_some] at h1
                  unfold posV posL at h1
                  rw [List.length_map] at h1
                  omega
              clear hproof hk5 hT5 hblk5
              have hv : minF (befL ps np) = minF (befL ps l.length) := by rw [HLL.out]
              go_wp2_with fail
              refine (pmin_is Ab q cb _ _ _ hv hq0 _ HAB.out (by omega)).mono ?_
              rintro e w' ⟨rfl, rfl⟩
              go_wp2
              go_ret2
              exact ⟨rfl, HBW5.out⟩
end Go.Proofs.Ytdidcpealabaiaa

end
