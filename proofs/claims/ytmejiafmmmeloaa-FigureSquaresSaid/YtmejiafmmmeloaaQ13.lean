import Derived.Test.YtmejiafmmmeloaaQ12

section
/- Contracts of chapter 6: the side of a zone, the search of a corner, the line through two zones. -/
namespace Go.Proofs.Ytmejiafmmmeloaa
open Go Go.RowKit

def sideF (m : Rm) (i : Nat) : Int := cmpI (m.q i * m.sw m.n) (m.sq m.n)
theorem side_is (m : Rm) (hm : m.Ok) (i : Nat) (hi : i < m.n) (t : Int) (ht : sideF m i = t) (w : World) : Calls Try.prog 41 #[.agg #[.int .i64 (m.sw m.n), .int .i64 (m.sq m.n), .int .i64 (m.sh m.n)], .int .i64 (m.q i)] w fun e w' => e = .returned (.int .i64 t) ∧ Below w.heap.size w w' := by
  obtain ⟨a1, a2, a3⟩ := hm.sums (Nat.le_refl m.n)
  have r2 := hm.q i hi
  have p1 := prod_small (x := m.q i) (y := m.sw m.n) (X := 1000) (Y := 40000) (by omega) (by omega) (by omega) (by omega)
  have e1 := IntWalk.i64_in (m.q i * m.sw m.n) ⟨by omega, by omega⟩
  have HT := Lib.hid ht
  clear ht hm p1
  go_enter Try.func41, Try.ntmps41
  go_wp2_with fail
  refine (cmp_is _ _ t HT.out _).mono ?_
  rintro e w' ⟨rfl, rfl⟩
  go_wp2
  go_ret
  exact ⟨rfl, by repeat' (first | exact Below.refl _ _ | exact HB0.out | refine below_drewN ?_ _ | refine Below.drew ?_ | refine Below.alloc ?_ (by first | omega | (simp; done) | (simp; omega) | (simp [World.setCell]; omega)) _ | refine Below.setCell ?_ (by first | omega | (simp; done) | (simp; omega)) _ | assumption)⟩

def nonnegB (m : Rm) (i : Nat) : Bool := decide (0 ≤ sideF m i)
theorem ref1_is (m : Rm) (hm : m.Ok) (mb sb i : Nat) (hi : i < m.n) (t : Bool) (ht : nonnegB m i = t) (w : World) (hx : RmAt m w) (hk : Blk w mb 38 #[.slice (some ⟨m.b1, m.o1, none⟩) m.n m.c1, .slice (some ⟨m.b2, m.o2, none⟩) m.n m.c2, .slice (some ⟨m.b3, m.o3, none⟩) m.n m.c3]) (hs : Blk w sb 77 #[.int .i64 (m.sw m.n), .int .i64 (m.sq m.n), .int .i64 (m.sh m.n)]) :
    Calls Try.prog 40 #[.int .i64 (i : Int), .pointer (some ⟨sb, 0, none⟩), .pointer (some ⟨mb, 0, none⟩)] w fun e w' => e = .returned (.bool t) ∧ Below w.heap.size w w' := by
  have hii : (i : Int) < (m.n : Int) := by omega
  obtain ⟨s, hs1⟩ : ∃ s, sideF m i = s := ⟨_, rfl⟩
  have htt : decide (0 ≤ s) = t := by rw [← ht, ← hs1]; rfl
  have HS1 := Lib.hid hs1
  have HT := Lib.hid htt
  have l0 := hk.lt
  have l1 := hs.lt
  have l2 := hx.l2
  have C0_0 := Lib.hid (show World.cell? w ⟨mb, 1, none⟩ = some (.slice (some ⟨m.b2, m.o2, none⟩) m.n m.c2) from hk.cell 1)
  have C1_0 := Lib.hid (show World.cell? w ⟨sb, 0, none⟩ = some (.int .i64 (m.sw m.n)) from hs.cell 0)
  have C2_0 := Lib.hid (show World.cell? w ⟨sb, 1, none⟩ = some (.int .i64 (m.sq m.n)) from hs.cell 1)
  have C3_0 := Lib.hid (show World.cell? w ⟨sb, 2, none⟩ = some (.int .i64 (m.sh m.n)) from hs.cell 2)
  have C4_0 := Lib.hid (hx.r2 i hi)
  have HMM := Lib.hid hm
  clear ht hs1 htt hx hk hs hm
  go_enter Try.func40, Try.ntmps40
  go_wp2_with fail
  have HB0 := Lib.hid (Below.refl w.heap.size w)
  refine Fx.regionW (fun W f w' => Below W.heap.size W w') (by kernel_rfl) (by kernel_rfl) ?_ ?_
  · intro f hf0
    exact below_drewN (Below.refl _ _) 1
  repeat (first
    | (refine Fx.skip_ (by rfl) (fun f w h => h) ?_; simp only [Act.put, List.setIfInBounds_toArray, List.set_cons_zero, List.set_cons_succ])
    | (refine Fx.val_ ?_ (by rfl) ?_ (fun f w h => h) ?_
       rotate_left
       · intro f w' hD hk
         have hb := hD
         have yc0 : w'.cell? ⟨mb, 1, none⟩ = some (.slice (some ⟨m.b2, m.o2, none⟩) m.n m.c2) := step_cell hb (show World.cell? _ ⟨mb, 1, none⟩ = some (.slice (some ⟨m.b2, m.o2, none⟩) m.n m.c2) by first | exact C0_0.out | go_simp) (by have := l0; first | omega | (simp; omega))
         have yc1 : w'.cell? ⟨sb, 0, none⟩ = some (.int .i64 (m.sw m.n)) := step_cell hb (show World.cell? _ ⟨sb, 0, none⟩ = some (.int .i64 (m.sw m.n)) by first | exact C1_0.out | go_simp) (by have := l1; first | omega | (simp; omega))
         have yc2 : w'.cell? ⟨sb, 1, none⟩ = some (.int .i64 (m.sq m.n)) := step_cell hb (show World.cell? _ ⟨sb, 1, none⟩ = some (.int .i64 (m.sq m.n)) by first | exact C2_0.out | go_simp) (by have := l1; first | omega | (simp; omega))
         have yc3 : w'.cell? ⟨sb, 2, none⟩ = some (.int .i64 (m.sh m.n)) := step_cell hb (show World.cell? _ ⟨sb, 2, none⟩ = some (.int .i64 (m.sh m.n)) by first | exact C3_0.out | go_simp) (by have := l1; first | omega | (simp; omega))
         have yc4 : w'.cell? ⟨m.b2, m.o2 + i, none⟩ = some (.int .i64 (m.q i)) := step_cell hb (show World.cell? _ ⟨m.b2, m.o2 + i, none⟩ = some (.int .i64 (m.q i)) by first | exact C4_0.out | go_simp) (by have := l2; first | omega | (simp; omega))
         clear hk hD hb
         go_simp
         try rfl
       simp only [Act.put, List.setIfInBounds_toArray, List.set_cons_zero, List.set_cons_succ]))
  refine Fx.call_ (.int .i64 (s)) ?_ ?_ (by rfl) ?_ ?_ ?_
  rotate_left 2
  · intro w'
    go_simp
    refine ⟨?_, ?_⟩ <;> rfl
  · intro f w' hD hk
    exact (side_is m HMM.out i hi s HS1.out w').mono fun e w'' ⟨he, hw⟩ => ⟨he, step_below hw hD⟩
  simp only [Act.put, List.setIfInBounds_toArray, List.set_cons_zero, List.set_cons_succ]
  repeat (first
    | (refine Fx.skip_ (by rfl) (fun f w h => h) ?_; simp only [Act.put, List.setIfInBounds_toArray, List.set_cons_zero, List.set_cons_succ])
    | (refine Fx.val_ ?_ (by rfl) ?_ (fun f w h => h) ?_
       rotate_left
       · intro f w' hD hk
         have hb := hD
         have yc0 : w'.cell? ⟨mb, 1, none⟩ = some (.slice (some ⟨m.b2, m.o2, none⟩) m.n m.c2) := step_cell hb (show World.cell? _ ⟨mb, 1, none⟩ = some (.slice (some ⟨m.b2, m.o2, none⟩) m.n m.c2) by first | exact C0_0.out | go_simp) (by have := l0; first | omega | (simp; omega))
         have yc1 : w'.cell? ⟨sb, 0, none⟩ = some (.int .i64 (m.sw m.n)) := step_cell hb (show World.cell? _ ⟨sb, 0, none⟩ = some (.int .i64 (m.sw m.n)) by first | exact C1_0.out | go_simp) (by have := l1; first | omega | (simp; omega))
         have yc2 : w'.cell? ⟨sb, 1, none⟩ = some (.int .i64 (m.sq m.n)) := step_cell hb (show World.cell? _ ⟨sb, 1, none⟩ = some (.int .i64 (m.sq m.n)) by first | exact C2_0.out | go_simp) (by have := l1; first | omega | (simp; omega))
         have yc3 : w'.cell? ⟨sb, 2, none⟩ = some (.int .i64 (m.sh m.n)) := step_cell hb (show World.cell? _ ⟨sb, 2, none⟩ = some (.int .i64 (m.sh m.n)) by first | exact C3_0.out | go_simp) (by have := l1; first | omega | (simp; omega))
         have yc4 : w'.cell? ⟨m.b2, m.o2 + i, none⟩ = some (.int .i64 (m.q i)) := step_cell hb (show World.cell? _ ⟨m.b2, m.o2 + i, none⟩ = some (.int .i64 (m.q i)) by first | exact C4_0.out | go_simp) (by have := l2; first | omega | (simp; omega))
         clear hk hD hb
         go_simp
         try rfl
       simp only [Act.put, List.setIfInBounds_toArray, List.set_cons_zero, List.set_cons_succ]))
  refine Fx.nil_ ?_
  intro f w1 hall hb
  try clear hall
  have HB01 := Lib.hid hb
  have HB1 := Lib.hid (show Below w.heap.size w w1 from step_below hb (by repeat' (first | exact Below.refl _ _ | exact HB0.out | refine below_drewN ?_ _ | refine Below.drew ?_ | refine Below.alloc ?_ (by first | omega | (simp; done) | (simp; omega) | (simp [World.setCell]; omega)) _ | refine Below.setCell ?_ (by first | omega | (simp; done) | (simp; omega)) _ | assumption)))
  have C0_1 := Lib.hid (step_cell hb (show World.cell? _ ⟨mb, 1, none⟩ = some (.slice (some ⟨m.b2, m.o2, none⟩) m.n m.c2) by first | exact C0_0.out | go_simp) (by have := l0; first | omega | (simp; omega)))
  have C1_1 := Lib.hid (step_cell hb (show World.cell? _ ⟨sb, 0, none⟩ = some (.int .i64 (m.sw m.n)) by first | exact C1_0.out | go_simp) (by have := l1; first | omega | (simp; omega)))
  have C2_1 := Lib.hid (step_cell hb (show World.cell? _ ⟨sb, 1, none⟩ = some (.int .i64 (m.sq m.n)) by first | exact C2_0.out | go_simp) (by have := l1; first | omega | (simp; omega)))
  have C3_1 := Lib.hid (step_cell hb (show World.cell? _ ⟨sb, 2, none⟩ = some (.int .i64 (m.sh m.n)) by first | exact C3_0.out | go_simp) (by have := l1; first | omega | (simp; omega)))
  have C4_1 := Lib.hid (step_cell hb (show World.cell? _ ⟨m.b2, m.o2 + i, none⟩ = some (.int .i64 (m.q i)) by first | exact C4_0.out | go_simp) (by have := l2; first | omega | (simp; omega)))
  have hz1 := hb.size
  try simp only [World.size_alloc, World.drewN, World.drew] at hz1
  clear hb
  go_wp2
  go_ret
  exact ⟨ret_bool HT.out, HB1.out⟩

def idxF : Option Nat → Int
  | some j => j
  | none => -1
/-- A function value that has captured two pointers and asks something of a number. -/
structure Asks2 (k : FuncId) (va vb : Nat) (pr : Nat → Bool) (L : List Nat) (w : World) : Prop where
  ent : ∀ (args : Array Value) (w : World), (callFunc k args).run Try.prog w = .ok (.enter k args) w
  call : ∀ (z : Nat) (t : Bool) (wr : World), z ∈ L → pr z = t → Below w.heap.size w wr → Calls Try.prog k #[.int .i64 (z : Int), .pointer (some ⟨va, 0, none⟩), .pointer (some ⟨vb, 0, none⟩)] wr fun e w' => e = .returned (.bool t) ∧ Below wr.heap.size wr w'
theorem findIdx_at {pr : Nat → Bool} {L : List Nat} {j z : Nat} (hz : L[j]? = some z) (h : (L.take j).any pr = false) (hp : pr z = true) : L.findIdx? pr = some j := by
  have hj := (List.getElem?_eq_some_iff.1 hz).1
  rw [← List.take_append_drop j L, List.findIdx?_append]
  have h1 : (L.take j).findIdx? pr = none := by
    rw [List.findIdx?_eq_none_iff]
    exact fun x hx => by simpa using List.any_eq_false.1 h x hx
  have h2 : L.drop j = z :: L.drop (j + 1) := by obtain ⟨h3, h4⟩ := List.getElem?_eq_some_iff.1 hz; rw [List.drop_eq_getElem_cons h3, h4]
  rw [h1, h2, List.findIdx?_cons, hp]
  simp
  omega
theorem findIdx_no {pr : Nat → Bool} {L : List Nat} (h : L.any pr = false) : L.findIdx? pr = none := by
  rw [List.findIdx?_eq_none_iff]
  exact fun x hx => by simpa using List.any_eq_false.1 h x hx
theorem any_take2 {pr : Nat → Bool} {l : List Nat} {k : Nat} {z : Nat} (hz : l[k]? = some z) (h : (l.take k).any pr = false) (hp : pr z = false) : (l.take (k + 1)).any pr = false := by
  rw [List.take_add_one, hz, List.any_append, h]
  simp [hp]

set_option maxRecDepth 100000 in
theorem idx2_any (kf va vb : Nat) (pr : Nat → Bool) (L : List Nat) (g o n c : Nat) (w : World) (hk : Asks2 kf va vb pr L w) (hL : L.length = n) (hn : n ≤ 1000) (hg : g < w.heap.size) (hc : ∀ i u, (nats L)[i]? = some u → w.cell? ⟨g, o + i, none⟩ = some u) (r : Int) (hr : idxF (L.findIdx? pr) = r) :
    Calls Try.prog 39 #[.slice (some ⟨g, o, none⟩) n c, .func (.func kf) #[] #[.pointer (some ⟨va, 0, none⟩), .pointer (some ⟨vb, 0, none⟩)]] w fun e w' => e = .returned (.int .i64 r) ∧ Below w.heap.size w w' := by
  have hent := hk.ent
  have HK := Lib.hid hk
  have HL := Lib.hid hL
  have HC := Lib.hid hc
  have HR := Lib.hid hr
  clear hk hL hc hr
  go_enter Try.func39, Try.ntmps39
  go_wp2
  go_loopw [8] (fun i wr => ∃ q : Nat, q ≤ n ∧ i = .int .i64 q ∧ (L.take q).any pr = false ∧ Below w.heap.size w wr) (fun i _ => n - (intOf i).toNat)
  case atStart => exact ⟨0, by omega, rfl, by simp, Below.refl _ _⟩
  case round =>
    obtain ⟨q, hq, rfl, ht, hb⟩ := hrel
    have HT := Lib.hid ht
    have HB := Lib.hid hb
    by_cases hlt : q < n
    · obtain ⟨z, hz⟩ : ∃ z, L[q]? = some z := ⟨_, List.getElem?_eq_getElem (by rw [HL.out]; exact hlt)⟩
      have c0 : wr.cell? ⟨g, o + q, none⟩ = some (.int .i64 (z : Int)) := (hb.cell (p := ⟨g, o + q, none⟩) hg).trans (HC.out q _ (nats_get hz))
      have hqq : (q : Int) < (n : Int) := by omega
      have HZ := Lib.hid hz
      clear hz ht hb
      cases hp : pr z with
      | false =>
        have HPR := Lib.hid hp
        clear hp
        go_wp2_with fail
        refine (HK.out.call z false _ (List.mem_of_getElem? HZ.out) HPR.out HB.out).mono ?_
        rintro e w' ⟨rfl, hb2⟩
        have HB2 := Lib.hid (HB.out.trans (hb2.mono HB.out.size))
        clear hb2
        go_wp2
        go_roundw
        case rel => exact ⟨q + 1, by omega, by go_num, any_take2 HZ.out HT.out HPR.out, HB2.out⟩
        case measure => simp [intOf]; omega
      | true =>
        have HPR := Lib.hid hp
        clear hp
        go_wp2_with fail
        refine (HK.out.call z true _ (List.mem_of_getElem? HZ.out) HPR.out HB.out).mono ?_
        rintro e w' ⟨rfl, hb2⟩
        have HB2 := Lib.hid (HB.out.trans (hb2.mono HB.out.size))
        clear hb2
        go_wp2
        go_ret
        exact ⟨ret_int (by rw [← HR.out, findIdx_at HZ.out HT.out HPR.out]; rfl), HB2.out⟩
    · clear hb ht
      go_wp2
      go_ret
      have ht := HT.out
      rw [List.take_of_length_le (by rw [HL.out]; omega)] at ht
      exact ⟨ret_int (by rw [← HR.out, findIdx_no ht]; rfl), HB.out⟩

/-- The line through two zones: its start, its slope. -/
def thrS (m : Rm) (a b : Nat) : Int × Int := (redN (m.h a * (m.q b - m.q a) - (m.h b - m.h a) * m.q a) (m.q b - m.q a), redD (m.h a * (m.q b - m.q a) - (m.h b - m.h a) * m.q a) (m.q b - m.q a))
def thrV (m : Rm) (a b : Nat) : Int × Int := (redN (m.h b - m.h a) (m.q b - m.q a), redD (m.h b - m.h a) (m.q b - m.q a))

set_option maxRecDepth 100000 in
set_option maxHeartbeats 4000000 in
theorem through_is (m : Rm) (hm : m.Ok) (a b : Nat) (ha : a < m.n) (hb : b < m.n) (hab : m.q a < m.q b) (s1 s2 v1 v2 : Int) (hs : thrS m a b = (s1, s2)) (hv : thrV m a b = (v1, v2)) (w : World) (hx : RmAt m w) :
    Calls Try.prog 42 #[m.val, .int .i64 (a : Int), .int .i64 (b : Int)] w fun e w' => e = .returned (.tuple #[.agg #[.int .i64 s1, .int .i64 s2], .agg #[.int .i64 v1, .int .i64 v2]]) ∧ Below w.heap.size w w' := by
  have ra := hm.h a ha
  have rb := hm.h b hb
  have sa := hm.q a ha
  have sb := hm.q b hb
  have d1 := hx.r1 a ha
  have d2 := hx.r1 b hb
  have d3 := hx.r2 a ha
  have d4 := hx.r2 b hb
  have l1 := hx.l1
  have l2 := hx.l2
  have hn2 := hm.n2
  have j1 : (a : Int) < (m.n : Int) := by omega
  have j2 : (b : Int) < (m.n : Int) := by omega
  obtain ⟨ri, hri⟩ : ∃ r, m.h b - m.h a = r := ⟨_, rfl⟩
  obtain ⟨ru, hru⟩ : ∃ r, m.q b - m.q a = r := ⟨_, rfl⟩
  have p1 := prod_small (x := m.h a) (y := ru) (X := 100000) (Y := 1000) (by omega) (by omega) (by omega) (by omega)
  have p2 := prod_small (x := ri) (y := m.q a) (X := 200000) (Y := 1000) (by omega) (by omega) (by omega) (by omega)
  have e1 : IntKind.i64.wrap (m.h b - m.h a) = ri := by rw [hri]; exact IntWalk.i64_in ri ⟨by omega, by omega⟩
  have e2 : IntKind.i64.wrap (m.q b - m.q a) = ru := by rw [hru]; exact IntWalk.i64_in ru ⟨by omega, by omega⟩
  have e3 := IntWalk.i64_in (m.h a * ru) ⟨by omega, by omega⟩
  have e4 := IntWalk.i64_in (ri * m.q a) ⟨by omega, by omega⟩
  have e5 := IntWalk.i64_in (m.h a * ru - ri * m.q a) ⟨by omega, by omega⟩
  unfold thrS at hs
  unfold thrV at hv
  rw [hri, hru] at hs hv
  simp only [Prod.mk.injEq] at hs hv
  have HS := Lib.hid hs
  have HV := Lib.hid hv
  have hr1 : 1 ≤ ru := by omega
  have hr2 : ru ≤ 1000 := by omega
  have hk1 : -200000 ≤ ri ∧ ri ≤ 200000 := by omega
  have hk2 : -400000000 ≤ m.h a * ru - ri * m.q a ∧ m.h a * ru - ri * m.q a ≤ 400000000 := by omega
  clear hs hv hri hru hm hx p1 p2 ra rb sa sb hab
  unfold Rm.val
  go_enter Try.func42, Try.ntmps42
  go_wp2
  have C0_0 := Lib.hid d1
  have C1_0 := Lib.hid d2
  have C2_0 := Lib.hid d3
  have C3_0 := Lib.hid d4
  generalize hwn : (((w.alloc (.cells #[.slice (some ⟨m.b1, m.o1, none⟩) m.n m.c1, .slice (some ⟨m.b2, m.o2, none⟩) m.n m.c2, .slice (some ⟨m.b3, m.o3, none⟩) m.n m.c3] 38)).alloc (.cells #[.int .i64 (0), .int .i64 (0)] 25)).alloc (.cells #[.int .i64 (0), .int .i64 (0)] 25)) = w1
  have hbn : Below w.heap.size w w1 := by rw [← hwn]; repeat' (first | exact Below.refl _ _ | refine below_drewN ?_ _ | refine Below.drew ?_ | refine Below.alloc ?_ (by first | omega | (simp; done) | (simp; omega) | (simp [World.setCell]; omega)) _ | refine Below.setCell ?_ (by first | omega | (simp; done) | (simp; omega)) _)
  have HB1 := Lib.hid (show Below w.heap.size w w1 from hbn)
  have K0_1 := Lib.hid (show Blk w1 (w.heap.size) 38 #[.slice (some ⟨m.b1, m.o1, none⟩) m.n m.c1, .slice (some ⟨m.b2, m.o2, none⟩) m.n m.c2, .slice (some ⟨m.b3, m.o3, none⟩) m.n m.c3] by rw [← hwn]; repeat' (first | exact Blk.at_ _ (by first | rfl | (simp; done) | (simp; omega)) _ _ | refine Blk.drewN ?_ _ | refine Blk.drew ?_ | refine Blk.alloc ?_ _ | refine Blk.far ?_ (by first | omega | (simp; done) | (simp; omega)) _ | assumption))
  have K1_1 := Lib.hid (show Blk w1 (w.heap.size + 1) 25 #[.int .i64 (0), .int .i64 (0)] by rw [← hwn]; repeat' (first | exact Blk.at_ _ (by first | rfl | (simp; done) | (simp; omega)) _ _ | refine Blk.drewN ?_ _ | refine Blk.drew ?_ | refine Blk.alloc ?_ _ | refine Blk.far ?_ (by first | omega | (simp; done) | (simp; omega)) _ | assumption))
  have K2_1 := Lib.hid (show Blk w1 (w.heap.size + 1 + 1) 25 #[.int .i64 (0), .int .i64 (0)] by rw [← hwn]; repeat' (first | exact Blk.at_ _ (by first | rfl | (simp; done) | (simp; omega)) _ _ | refine Blk.drewN ?_ _ | refine Blk.drew ?_ | refine Blk.alloc ?_ _ | refine Blk.far ?_ (by first | omega | (simp; done) | (simp; omega)) _ | assumption))
  have C0_1 := Lib.hid (step_cell hbn C0_0.out (by have := l1; first | omega | (simp; omega)))
  have C1_1 := Lib.hid (step_cell hbn C1_0.out (by have := l1; first | omega | (simp; omega)))
  have C2_1 := Lib.hid (step_cell hbn C2_0.out (by have := l2; first | omega | (simp; omega)))
  have C3_1 := Lib.hid (step_cell hbn C3_0.out (by have := l2; first | omega | (simp; omega)))
  have HN1 := Lib.hid hbn
  have hz1 := hbn.size
  clear hwn hbn
  have l0_1 : w.heap.size < w1.heap.size := K0_1.out.lt
  have z0_0_1 : w1.cell? ⟨w.heap.size, 0, none⟩ = some (.slice (some ⟨m.b1, m.o1, none⟩) m.n m.c1) := K0_1.out.cell 0
  have z0_1_1 : w1.cell? ⟨w.heap.size, 1, none⟩ = some (.slice (some ⟨m.b2, m.o2, none⟩) m.n m.c2) := K0_1.out.cell 1
  have z0_2_1 : w1.cell? ⟨w.heap.size, 2, none⟩ = some (.slice (some ⟨m.b3, m.o3, none⟩) m.n m.c3) := K0_1.out.cell 2
  have l1_1 : w.heap.size + 1 < w1.heap.size := K1_1.out.lt
  have z1_0_1 : w1.cell? ⟨w.heap.size + 1, 0, none⟩ = some (.int .i64 (0)) := K1_1.out.cell 0
  have z1_1_1 : w1.cell? ⟨w.heap.size + 1, 1, none⟩ = some (.int .i64 (0)) := K1_1.out.cell 1
  have l2_1 : w.heap.size + 1 + 1 < w1.heap.size := K2_1.out.lt
  have z2_0_1 : w1.cell? ⟨w.heap.size + 1 + 1, 0, none⟩ = some (.int .i64 (0)) := K2_1.out.cell 0
  have z2_1_1 : w1.cell? ⟨w.heap.size + 1 + 1, 1, none⟩ = some (.int .i64 (0)) := K2_1.out.cell 1
  refine Fx.regionW (fun W f w' => Below W.heap.size W w') (by kernel_rfl) (by kernel_rfl) ?_ ?_
  · intro f hf0
    exact below_drewN (Below.refl _ _) 1
  repeat (first
    | (refine Fx.skip_ (by rfl) (fun f w h => h) ?_; simp only [Act.put, List.setIfInBounds_toArray, List.set_cons_zero, List.set_cons_succ])
    | (refine Fx.val_ ?_ (by rfl) ?_ (fun f w h => h) ?_
       rotate_left
       · intro f w' hD hk
         have hb := hD
         have kb0 := step_blk hb (show Blk _ (w.heap.size) 38 #[.slice (some ⟨m.b1, m.o1, none⟩) m.n m.c1, .slice (some ⟨m.b2, m.o2, none⟩) m.n m.c2, .slice (some ⟨m.b3, m.o3, none⟩) m.n m.c3] by repeat' (first | exact K0_1.out | exact K1_1.out | exact K2_1.out | exact Blk.at_ _ (by first | rfl | (simp; done) | (simp; omega)) _ _ | refine Blk.drewN ?_ _ | refine Blk.drew ?_ | refine Blk.alloc ?_ _ | refine Blk.far ?_ (by first | omega | (simp; done) | (simp; omega)) _ | assumption))
         have y0_0 : w'.cell? ⟨w.heap.size, 0, none⟩ = some (.slice (some ⟨m.b1, m.o1, none⟩) m.n m.c1) := kb0.cell 0
         have y0_1 : w'.cell? ⟨w.heap.size, 1, none⟩ = some (.slice (some ⟨m.b2, m.o2, none⟩) m.n m.c2) := kb0.cell 1
         have y0_2 : w'.cell? ⟨w.heap.size, 2, none⟩ = some (.slice (some ⟨m.b3, m.o3, none⟩) m.n m.c3) := kb0.cell 2
         have kb1 := step_blk hb (show Blk _ (w.heap.size + 1) 25 #[.int .i64 (0), .int .i64 (0)] by repeat' (first | exact K0_1.out | exact K1_1.out | exact K2_1.out | exact Blk.at_ _ (by first | rfl | (simp; done) | (simp; omega)) _ _ | refine Blk.drewN ?_ _ | refine Blk.drew ?_ | refine Blk.alloc ?_ _ | refine Blk.far ?_ (by first | omega | (simp; done) | (simp; omega)) _ | assumption))
         have y1_0 : w'.cell? ⟨w.heap.size + 1, 0, none⟩ = some (.int .i64 (0)) := kb1.cell 0
         have y1_1 : w'.cell? ⟨w.heap.size + 1, 1, none⟩ = some (.int .i64 (0)) := kb1.cell 1
         have kb2 := step_blk hb (show Blk _ (w.heap.size + 1 + 1) 25 #[.int .i64 (0), .int .i64 (0)] by repeat' (first | exact K0_1.out | exact K1_1.out | exact K2_1.out | exact Blk.at_ _ (by first | rfl | (simp; done) | (simp; omega)) _ _ | refine Blk.drewN ?_ _ | refine Blk.drew ?_ | refine Blk.alloc ?_ _ | refine Blk.far ?_ (by first | omega | (simp; done) | (simp; omega)) _ | assumption))
         have y2_0 : w'.cell? ⟨w.heap.size + 1 + 1, 0, none⟩ = some (.int .i64 (0)) := kb2.cell 0
         have y2_1 : w'.cell? ⟨w.heap.size + 1 + 1, 1, none⟩ = some (.int .i64 (0)) := kb2.cell 1
         have yc0 : w'.cell? ⟨m.b1, m.o1 + a, none⟩ = some (.int .i64 (m.h a)) := step_cell hb (show World.cell? _ ⟨m.b1, m.o1 + a, none⟩ = some (.int .i64 (m.h a)) by first | exact C0_1.out | go_simp) (by have := l1; first | omega | (simp; omega))
         have yc1 : w'.cell? ⟨m.b1, m.o1 + b, none⟩ = some (.int .i64 (m.h b)) := step_cell hb (show World.cell? _ ⟨m.b1, m.o1 + b, none⟩ = some (.int .i64 (m.h b)) by first | exact C1_1.out | go_simp) (by have := l1; first | omega | (simp; omega))
         have yc2 : w'.cell? ⟨m.b2, m.o2 + a, none⟩ = some (.int .i64 (m.q a)) := step_cell hb (show World.cell? _ ⟨m.b2, m.o2 + a, none⟩ = some (.int .i64 (m.q a)) by first | exact C2_1.out | go_simp) (by have := l2; first | omega | (simp; omega))
         have yc3 : w'.cell? ⟨m.b2, m.o2 + b, none⟩ = some (.int .i64 (m.q b)) := step_cell hb (show World.cell? _ ⟨m.b2, m.o2 + b, none⟩ = some (.int .i64 (m.q b)) by first | exact C3_1.out | go_simp) (by have := l2; first | omega | (simp; omega))
         clear kb0 kb1 kb2
         clear hk hD hb
         go_simp
         try rfl
       simp only [Act.put, List.setIfInBounds_toArray, List.set_cons_zero, List.set_cons_succ]))
  refine Fx.nil_ ?_
  intro f w2 hall hb
  try clear hall
  have HB12 := Lib.hid hb
  have HB2 := Lib.hid (show Below w.heap.size w w2 from step_below hb (by repeat' (first | exact Below.refl _ _ | exact HB1.out | refine below_drewN ?_ _ | refine Below.drew ?_ | refine Below.alloc ?_ (by first | omega | (simp; done) | (simp; omega) | (simp [World.setCell]; omega)) _ | refine Below.setCell ?_ (by first | omega | (simp; done) | (simp; omega)) _ | assumption)))
  have K0_2 := Lib.hid (step_blk hb (show Blk _ (w.heap.size) 38 #[.slice (some ⟨m.b1, m.o1, none⟩) m.n m.c1, .slice (some ⟨m.b2, m.o2, none⟩) m.n m.c2, .slice (some ⟨m.b3, m.o3, none⟩) m.n m.c3] by repeat' (first | exact K0_1.out | exact K1_1.out | exact K2_1.out | exact Blk.at_ _ (by first | rfl | (simp; done) | (simp; omega)) _ _ | refine Blk.drewN ?_ _ | refine Blk.drew ?_ | refine Blk.alloc ?_ _ | refine Blk.far ?_ (by first | omega | (simp; done) | (simp; omega)) _ | assumption)))
  have K1_2 := Lib.hid (step_blk hb (show Blk _ (w.heap.size + 1) 25 #[.int .i64 (0), .int .i64 (0)] by repeat' (first | exact K0_1.out | exact K1_1.out | exact K2_1.out | exact Blk.at_ _ (by first | rfl | (simp; done) | (simp; omega)) _ _ | refine Blk.drewN ?_ _ | refine Blk.drew ?_ | refine Blk.alloc ?_ _ | refine Blk.far ?_ (by first | omega | (simp; done) | (simp; omega)) _ | assumption)))
  have K2_2 := Lib.hid (step_blk hb (show Blk _ (w.heap.size + 1 + 1) 25 #[.int .i64 (0), .int .i64 (0)] by repeat' (first | exact K0_1.out | exact K1_1.out | exact K2_1.out | exact Blk.at_ _ (by first | rfl | (simp; done) | (simp; omega)) _ _ | refine Blk.drewN ?_ _ | refine Blk.drew ?_ | refine Blk.alloc ?_ _ | refine Blk.far ?_ (by first | omega | (simp; done) | (simp; omega)) _ | assumption)))
  have C0_2 := Lib.hid (step_cell hb (show World.cell? _ ⟨m.b1, m.o1 + a, none⟩ = some (.int .i64 (m.h a)) by first | exact C0_1.out | go_simp) (by have := l1; first | omega | (simp; omega)))
  have C1_2 := Lib.hid (step_cell hb (show World.cell? _ ⟨m.b1, m.o1 + b, none⟩ = some (.int .i64 (m.h b)) by first | exact C1_1.out | go_simp) (by have := l1; first | omega | (simp; omega)))
  have C2_2 := Lib.hid (step_cell hb (show World.cell? _ ⟨m.b2, m.o2 + a, none⟩ = some (.int .i64 (m.q a)) by first | exact C2_1.out | go_simp) (by have := l2; first | omega | (simp; omega)))
  have C3_2 := Lib.hid (step_cell hb (show World.cell? _ ⟨m.b2, m.o2 + b, none⟩ = some (.int .i64 (m.q b)) by first | exact C3_1.out | go_simp) (by have := l2; first | omega | (simp; omega)))
  have hz2 := hb.size
  try simp only [World.size_alloc, World.drewN, World.drew] at hz2
  clear hb K0_1 K1_1 K2_1 z0_0_1 z0_1_1 z0_2_1 l0_1 z1_0_1 z1_1_1 l1_1 z2_0_1 z2_1_1 l2_1
  have l0_2 : w.heap.size < w2.heap.size := K0_2.out.lt
  have z0_0_2 : w2.cell? ⟨w.heap.size, 0, none⟩ = some (.slice (some ⟨m.b1, m.o1, none⟩) m.n m.c1) := K0_2.out.cell 0
  have z0_1_2 : w2.cell? ⟨w.heap.size, 1, none⟩ = some (.slice (some ⟨m.b2, m.o2, none⟩) m.n m.c2) := K0_2.out.cell 1
  have z0_2_2 : w2.cell? ⟨w.heap.size, 2, none⟩ = some (.slice (some ⟨m.b3, m.o3, none⟩) m.n m.c3) := K0_2.out.cell 2
  have l1_2 : w.heap.size + 1 < w2.heap.size := K1_2.out.lt
  have z1_0_2 : w2.cell? ⟨w.heap.size + 1, 0, none⟩ = some (.int .i64 (0)) := K1_2.out.cell 0
  have z1_1_2 : w2.cell? ⟨w.heap.size + 1, 1, none⟩ = some (.int .i64 (0)) := K1_2.out.cell 1
  have l2_2 : w.heap.size + 1 + 1 < w2.heap.size := K2_2.out.lt
  have z2_0_2 : w2.cell? ⟨w.heap.size + 1 + 1, 0, none⟩ = some (.int .i64 (0)) := K2_2.out.cell 0
  have z2_1_2 : w2.cell? ⟨w.heap.size + 1 + 1, 1, none⟩ = some (.int .i64 (0)) := K2_2.out.cell 1
  go_wp2
  refine Fx.regionW (fun W f w' => Below (w.heap.size + 1) W w' ∧ Blk w' (w.heap.size + 1) 25 (if f 20 then #[.int .i64 s1, .int .i64 s2] else #[.int .i64 0, .int .i64 0]) ∧ Blk w' (w.heap.size + 1 + 1) 25 (if f 21 then #[.int .i64 v1, .int .i64 v2] else #[.int .i64 0, .int .i64 0])) (by kernel_rfl) (by kernel_rfl) ?_ ?_
  · intro f hf0
    rw [hf0 20, hf0 21]
    exact ⟨below_drewN (Below.refl _ _) 1, Blk.drewN K1_2.out 1, Blk.drewN K2_2.out 1⟩
  have hl22 := l2_2
  repeat (first
    | (refine Fx.skip_ (by rfl) (fun f w h => h) ?_; simp only [Act.put, List.setIfInBounds_toArray, List.set_cons_zero, List.set_cons_succ])
    | (refine Fx.val_ ?_ (by rfl) ?_ (fun f w h => h) ?_
       rotate_left
       · intro f w' hD hk
         obtain ⟨hb, hk1_, hk2_⟩ := id hD
         have y0 : w'.cell? ⟨w.heap.size, 0, none⟩ = some (.slice (some ⟨m.b1, m.o1, none⟩) m.n m.c1) := (K0_2.out.below hb (by omega)).cell 0
         have y1 : w'.cell? ⟨w.heap.size, 1, none⟩ = some (.slice (some ⟨m.b2, m.o2, none⟩) m.n m.c2) := (K0_2.out.below hb (by omega)).cell 1
         have y2 : w'.cell? ⟨m.b1, m.o1 + a, none⟩ = some (.int .i64 (m.h a)) := (hb.cell (p := ⟨m.b1, m.o1 + a, none⟩) (by show m.b1 < _; omega)).trans C0_2.out
         have y3 : w'.cell? ⟨m.b2, m.o2 + a, none⟩ = some (.int .i64 (m.q a)) := (hb.cell (p := ⟨m.b2, m.o2 + a, none⟩) (by show m.b2 < _; omega)).trans C2_2.out
         clear hk hD hb hk1_ hk2_
         go_simp
         try rfl
       simp only [Act.put, List.setIfInBounds_toArray, List.set_cons_zero, List.set_cons_succ]))
  refine Fx.call_ (.agg #[.int .i64 (s1), .int .i64 (s2)]) ?_ ?_ (by rfl) ?_ ?_ ?_
  rotate_left 2
  · intro w'
    go_simp
    refine ⟨?_, ?_⟩ <;> rfl
  · intro f w' hD hk
    exact (lowestfig_is _ _ s1 s2 HS.out.1 HS.out.2 w' (by omega) (by omega) (by omega) (by omega)).mono fun e w'' ⟨he, hw⟩ => ⟨he, step_belowAt hw hD.1 (by omega), step_blk hw hD.2.1, step_blk hw hD.2.2⟩
  simp only [Act.put, List.setIfInBounds_toArray, List.set_cons_zero, List.set_cons_succ]
  repeat (first
    | (refine Fx.skip_ (by rfl) (fun f w h => h) ?_; simp only [Act.put, List.setIfInBounds_toArray, List.set_cons_zero, List.set_cons_succ])
    | (refine Fx.val_ ?_ (by rfl) ?_ (fun f w h => h) ?_
       rotate_left
       · intro f w' hD hk
         obtain ⟨hb, hk1_, hk2_⟩ := id hD
         clear hk hD hb hk1_ hk2_
         go_simp
         try rfl
       simp only [Act.put, List.setIfInBounds_toArray, List.set_cons_zero, List.set_cons_succ]))
  refine Fx.call_ (.agg #[.int .i64 (v1), .int .i64 (v2)]) ?_ ?_ (by rfl) ?_ ?_ ?_
  rotate_left 2
  · intro w'
    go_simp
    refine ⟨?_, ?_⟩ <;> rfl
  · intro f w' hD hk
    exact (lowestfig_is _ _ v1 v2 HV.out.1 HV.out.2 w' (by omega) (by omega) (by omega) (by omega)).mono fun e w'' ⟨he, hw⟩ => ⟨he, step_belowAt hw hD.1 (by omega), step_blk hw hD.2.1, step_blk hw hD.2.2⟩
  simp only [Act.put, List.setIfInBounds_toArray, List.set_cons_zero, List.set_cons_succ]
  repeat (first
    | (refine Fx.skip_ (by rfl) (fun f w h => h) ?_; simp only [Act.put, List.setIfInBounds_toArray, List.set_cons_zero, List.set_cons_succ])
    | (refine Fx.val_ ?_ (by rfl) ?_ (fun f w h => h) ?_
       rotate_left
       · intro f w' hD hk
         obtain ⟨hb, hk1_, hk2_⟩ := id hD
         clear hk hD hb hk1_ hk2_
         go_simp
         try rfl
       simp only [Act.put, List.setIfInBounds_toArray, List.set_cons_zero, List.set_cons_succ]))
  refine Fx.store_ (fun w' => (w'.setCell ⟨w.heap.size + 1, 0, none⟩ (.int .i64 s1)).setCell ⟨w.heap.size + 1, 1, none⟩ (.int .i64 s2)) (by rfl) ?_ ?_ ?_
  · intro f w' hD hk
    obtain ⟨hb, hk1_, hk2_⟩ := id hD
    have h0 : f 20 = false := hk.1
    rw [h0] at hk1_
    simp only [Bool.false_eq_true, if_false] at hk1_
    have q0 := hk1_.cell 0
    have q1 := hk1_.cell 1
    have q2 := hk1_.frozen 0
    have q3 := hk1_.frozen 1
    clear hk hD hb hk1_ hk2_
    go_simp
  · intro f w' hD hk
    obtain ⟨hb, hk1_, hk2_⟩ := id hD
    have h0 : f 20 = false := hk.1
    rw [h0] at hk1_
    simp only [Bool.false_eq_true, if_false] at hk1_
    have q0 := hk1_.cell 0
    have q1 := hk1_.cell 1
    have q2 := hk1_.frozen 0
    have q3 := hk1_.frozen 1
    exact ⟨(hb.setCell (p := ⟨w.heap.size + 1, 0, none⟩) (by show _ ≤ _; simp) _).setCell (p := ⟨w.heap.size + 1, 1, none⟩) (by show _ ≤ _; simp) _, by simpa [Fx.add] using (hk1_.set_ 0 (.int .i64 s1)).set_ 1 (.int .i64 s2), (hk2_.far (p := ⟨w.heap.size + 1, 0, none⟩) (by show w.heap.size + 1 + 1 ≠ w.heap.size + 1; omega) (.int .i64 s1)).far (p := ⟨w.heap.size + 1, 1, none⟩) (by show w.heap.size + 1 + 1 ≠ w.heap.size + 1; omega) (.int .i64 s2)⟩
  simp only [Act.put, List.setIfInBounds_toArray, List.set_cons_zero, List.set_cons_succ]
  refine Fx.store_ (fun w' => (w'.setCell ⟨w.heap.size + 1 + 1, 0, none⟩ (.int .i64 v1)).setCell ⟨w.heap.size + 1 + 1, 1, none⟩ (.int .i64 v2)) (by rfl) ?_ ?_ ?_
  · intro f w' hD hk
    obtain ⟨hb, hk1_, hk2_⟩ := id hD
    have h0 : f 21 = false := hk.1
    rw [h0] at hk2_
    simp only [Bool.false_eq_true, if_false] at hk2_
    have q0 := hk2_.cell 0
    have q1 := hk2_.cell 1
    have q2 := hk2_.frozen 0
    have q3 := hk2_.frozen 1
    clear hk hD hb hk1_ hk2_
    go_simp
  · intro f w' hD hk
    obtain ⟨hb, hk1_, hk2_⟩ := id hD
    have h0 : f 21 = false := hk.1
    rw [h0] at hk2_
    simp only [Bool.false_eq_true, if_false] at hk2_
    have q0 := hk2_.cell 0
    have q1 := hk2_.cell 1
    have q2 := hk2_.frozen 0
    have q3 := hk2_.frozen 1
    exact ⟨(hb.setCell (p := ⟨w.heap.size + 1 + 1, 0, none⟩) (by show _ ≤ _; simp) _).setCell (p := ⟨w.heap.size + 1 + 1, 1, none⟩) (by show _ ≤ _; simp) _, (hk1_.far (p := ⟨w.heap.size + 1 + 1, 0, none⟩) (by show w.heap.size + 1 ≠ w.heap.size + 1 + 1; omega) (.int .i64 v1)).far (p := ⟨w.heap.size + 1 + 1, 1, none⟩) (by show w.heap.size + 1 ≠ w.heap.size + 1 + 1; omega) (.int .i64 v2), by simpa [Fx.add] using (hk2_.set_ 0 (.int .i64 v1)).set_ 1 (.int .i64 v2)⟩
  simp only [Act.put, List.setIfInBounds_toArray, List.set_cons_zero, List.set_cons_succ]
  refine Fx.nil_ ?_
  intro f w3 hall hD
  obtain ⟨hb, hk1_, hk2_⟩ := hD
  rw [hall 20 (by simp)] at hk1_
  rw [hall 21 (by simp)] at hk2_
  simp only [if_true] at hk1_ hk2_
  clear hall
  have hbw := HB2.out.trans (hb.mono (show w.heap.size ≤ w.heap.size + 1 by omega))
  have HBW := Lib.hid hbw
  clear hbw hb
  have q0 := hk1_.cell 0
  have q1 := hk1_.cell 1
  have q2 := hk2_.cell 0
  have q3 := hk2_.cell 1
  have q4 := hk1_.lt
  have q5 := hk2_.lt
  go_wp2
  exact bodyPost_ret (v := .tuple #[.agg #[.int .i64 s1, .int .i64 s2], .agg #[.int .i64 v1, .int .i64 v2]]) (by simp [results, Try.results42, go_sem, q0, q1, q2, q3, q4, q5]) rfl ⟨rfl, HBW.out⟩
end Go.Proofs.Ytmejiafmmmeloaa

end

section
/- Plain law of the lower hull: it ascends in q, and is not empty; the line of least removal. -/
namespace Go.Proofs.Ytmejiafmmmeloaa
open Go.RowKit

theorem ltZ_iff {h q : Nat → Int} {a b : Nat} : ltZ h q a b = true ↔ q a < q b ∨ q a = q b ∧ h a < h b := by
  unfold ltZ cmpZ or2F cmpI
  rw [decide_eq_true_eq]
  constructor
  · intro hh
    repeat' split at hh
    all_goals omega
  · intro hh
    repeat' split
    all_goals omega
theorem ltZ_no {h q : Nat → Int} {a b : Nat} : ltZ h q a b = false ↔ ¬ (q a < q b ∨ q a = q b ∧ h a < h b) := by
  rw [← ltZ_iff]
  cases ltZ h q a b <;> simp
theorem order_srt (h q : Nat → Int) (n : Nat) : Srt (ltZ h q) (orderF h q n) := by
  unfold orderF
  refine sortF_srt (fun a b c h1 h2 => ?_) (fun a b h1 => ?_) _
  · rw [ltZ_no] at *; omega
  · rw [ltZ_no]; rw [ltZ_iff] at h1; omega
theorem order_asc (h q : Nat → Int) (n : Nat) : (orderF h q n).Pairwise fun a b => q a ≤ q b ∧ (q a = q b → h a ≤ h b) := by
  refine List.Pairwise.imp ?_ (order_srt h q n)
  intro a b hab
  rw [ltZ_no] at hab
  omega
theorem popR_suffix (h q : Nat → Int) (k : Nat) : ∀ st, popR h q st k <:+ st
  | [] => by unfold popR; exact List.suffix_refl _
  | [b] => by unfold popR; exact List.suffix_refl _
  | b :: a :: r => by
    unfold popR
    by_cases hu : underB h q a b k = true
    · rw [if_pos hu]; exact List.suffix_refl _
    · rw [if_neg hu]; exact (popR_suffix h q k (a :: r)).trans (List.suffix_cons _ _)
theorem pushR_dec {h q : Nat → Int} {st : List Nat} {k : Nat} (hs : st.Pairwise fun b a => q a < q b) (hk : ∀ x ∈ st, q x ≤ q k) : (pushR h q st k).Pairwise fun b a => q a < q b := by
  unfold pushR
  cases st with
  | nil => simp
  | cons b r =>
    simp only
    split
    · exact hs
    · rename_i hne
      have hb := hk b (by simp)
      rw [List.pairwise_cons]
      refine ⟨fun x hx => ?_, hs.sublist (popR_suffix h q k _).sublist⟩
      have hx2 := popR_mem h q k _ x hx
      rcases List.mem_cons.1 hx2 with rfl | hx3
      · omega
      · have := (List.pairwise_cons.1 hs).1 x hx3; omega
theorem pushR_ne (h q : Nat → Int) (st : List Nat) (k : Nat) : pushR h q st k ≠ [] := by
  unfold pushR
  cases st with
  | nil => simp
  | cons b r => simp only; split <;> simp
theorem pushR_top {h q : Nat → Int} {st : List Nat} {k x : Nat} (hk : ∀ y ∈ st, q y ≤ q k) (hx : x ∈ pushR h q st k) : q x ≤ q k := by
  rcases pushR_mem h q st k x hx with h1 | h1
  · exact hk x h1
  · rw [h1]; exact Int.le_refl _
theorem hullR_dec (h q : Nat → Int) : ∀ (l st : List Nat), l.Pairwise (fun a b => q a ≤ q b) → st.Pairwise (fun b a => q a < q b) → (∀ x ∈ st, ∀ y ∈ l, q x ≤ q y) → (l.foldl (pushR h q) st).Pairwise fun b a => q a < q b
  | [], st, _, hs, _ => hs
  | k :: l, st, hl, hs, hx => by
    rw [List.pairwise_cons] at hl
    rw [List.foldl_cons]
    refine hullR_dec h q l _ hl.2 (pushR_dec hs fun x hx2 => hx x hx2 k (by simp)) fun x hx2 y hy => ?_
    have := pushR_top (fun y hy => hx y hy k (by simp)) hx2
    have := hl.1 y hy
    omega
theorem hull_asc (h q : Nat → Int) (n : Nat) : (hullF h q n).Pairwise fun a b => q a < q b := by
  unfold hullF
  rw [List.pairwise_reverse]
  exact hullR_dec h q _ [] ((order_asc h q n).imp fun h => h.1) List.Pairwise.nil (by simp)
theorem hull_mem {h q : Nat → Int} {n x : Nat} (hx : x ∈ hullF h q n) : x < n := by
  unfold hullF at hx
  rw [List.mem_reverse] at hx
  exact orderF_mem.1 (hullR_mem _ _ _ _ hx)
theorem hull_ne {h q : Nat → Int} {n : Nat} (hn : 1 ≤ n) : hullF h q n ≠ [] := by
  have hl := orderF_len h q n
  unfold hullF
  intro e
  rw [List.reverse_eq_nil_iff] at e
  rcases List.eq_nil_or_concat (orderF h q n) with h1 | ⟨l, k, h1⟩
  · rw [h1] at hl; simp at hl; omega
  · rw [h1, List.concat_eq_append, hullR_snoc] at e
    exact pushR_ne _ _ _ _ e
theorem hull_len (h q : Nat → Int) (n : Nat) : (hullF h q n).length ≤ n := by
  unfold hullF
  rw [List.length_reverse]
  exact Nat.le_trans (hullR_len h q _) (by rw [orderF_len]; exact Nat.le_refl _)

/-- The corner behind the side that is looked for. -/
def cornerI (m : Rm) (l : List Nat) : Nat := max 1 ((l.findIdx? (nonnegB m)).getD 0)
theorem corner_lt {m : Rm} {l : List Nat} (hl : 1 < l.length) : 1 ≤ cornerI m l ∧ cornerI m l < l.length := by
  unfold cornerI
  cases h : l.findIdx? (nonnegB m) with
  | none => simp; omega
  | some j =>
    have hj : j < l.length := by
      obtain ⟨h1, -⟩ := List.findIdx?_eq_some_iff_getElem.1 h
      exact h1
    simp
    omega
theorem corner_val {m : Rm} {l : List Nat} : (if (1 : Int) < idxF (l.findIdx? (nonnegB m)) then idxF (l.findIdx? (nonnegB m)) else 1) = ((cornerI m l : Nat) : Int) := by
  unfold cornerI
  cases l.findIdx? (nonnegB m) with
  | none => simp [idxF]
  | some j =>
    show (if (1 : Int) < (j : Int) then (j : Int) else 1) = ((max 1 j : Nat) : Int)
    rcases Nat.lt_or_ge 1 j with h | h
    · rw [if_pos (by omega)]; omega
    · rw [if_neg (by omega)]; omega
/-- The line of least removal: its start, its slope, its zones. -/
def refF (m : Rm) : ((Int × Int) × (Int × Int)) × (Nat × Nat) :=
  if (hullF m.h m.q m.n).length = 1 then (((m.h ((hullF m.h m.q m.n).getD 0 0), 1), (0, 1)), ((hullF m.h m.q m.n).getD 0 0, (hullF m.h m.q m.n).getD 0 0))
  else ((thrS m ((hullF m.h m.q m.n).getD (cornerI m (hullF m.h m.q m.n) - 1) 0) ((hullF m.h m.q m.n).getD (cornerI m (hullF m.h m.q m.n)) 0), thrV m ((hullF m.h m.q m.n).getD (cornerI m (hullF m.h m.q m.n) - 1) 0) ((hullF m.h m.q m.n).getD (cornerI m (hullF m.h m.q m.n)) 0)),
    ((hullF m.h m.q m.n).getD (cornerI m (hullF m.h m.q m.n) - 1) 0, (hullF m.h m.q m.n).getD (cornerI m (hullF m.h m.q m.n)) 0))
end Go.Proofs.Ytmejiafmmmeloaa

end
