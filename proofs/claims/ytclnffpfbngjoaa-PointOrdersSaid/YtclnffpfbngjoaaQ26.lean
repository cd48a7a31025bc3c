import Derived.Test.YtclnffpfbngjoaaQ24
import Derived.Test.YtclnffpfbngjoaaQ17
import Derived.Test.YtclnffpfbngjoaaQ25
import Derived.Deep.Cut

section
/- The contract of the choice with the least cost: what its loops hold. -/
namespace Go.Proofs.Ytclnffpfbngjoaa
open Go Go.RowKit

attribute [local go_sem] Oper.semAt_some

/-- Behind k rounds: the potentials and where each came from. -/
structure ChI (m : Mnt) (day pos : Int) (l : List Tgt) (N0 cB tB k : Nat) (Xp Xq : Option Addr) (cp cq : Nat) (tsP tsC : List TRow) (w : World) : Prop where
  cb : Blk w cB 43 #[.slice none 0 0, .slice Xp k cp]
  tb : Blk w tB 41 #[.slice Xq k cq]
  pots : RowsOwn N0 tsP (.slice Xp k cp) k w
  came : RowsOwn N0 tsC (.slice Xq k cq) k w
  sep : ∀ q, (Value.slice Xp k cp).ownBlock = some q → (Value.slice Xq k cq).ownBlock ≠ some q
  px : tsP.map TRow.xs = (List.range k).map fun i => dpB m day pos l (i + 1)
  cx : tsC.map TRow.xs = (List.range k).map (cameL m day pos l)
theorem ChI.below {m : Mnt} {day pos : Int} {l : List Tgt} {N0 cB tB k : Nat} {Xp Xq : Option Addr} {cp cq : Nat} {tsP tsC : List TRow} {w w' : World} (h : ChI m day pos l N0 cB tB k Xp Xq cp cq tsP tsC w) (hb : Below w.heap.size w w') : ChI m day pos l N0 cB tB k Xp Xq cp cq tsP tsC w' :=
  ⟨step_blk hb h.cb, step_blk hb h.tb, h.pots.below hb, h.came.below hb, h.sep, h.px, h.cx⟩
theorem rowC_take {B F P : List Int} {j : Nat} {to : Int} (h : P[j]? = some to) : (rowC B F P).take (j + 1) = (rowC B F P).take j ++ [valC B F to (lowC B F to)] := by
  rw [List.take_add_one]; unfold rowC; rw [List.getElem?_map, h]; rfl
theorem byC_take {B F P : List Int} {j : Nat} {to : Int} (h : P[j]? = some to) : (byC B F P).take (j + 1) = (byC B F P).take j ++ [(lowC B F to : Int)] := by
  rw [List.take_add_one]; unfold byC; rw [List.getElem?_map, h]; rfl
theorem rowC_len (B F P : List Int) : (rowC B F P).length = P.length := by unfold rowC; rw [List.length_map]
theorem byC_len (B F P : List Int) : (byC B F P).length = P.length := by unfold byC; rw [List.length_map]

theorem turnsV_len (m : Mnt) (day : Int) (t : Tgt) : (turnsV m day t).length ≤ 43 := by
  unfold turnsV turnsF turnsAt
  split
  · simp
  · split
    · simp
    · exact turnsTo_len _ _ _ _
theorem bestC_lt' (B F : List Int) (to : Int) {h q : Nat} (hq : 0 < q) (hh : h ≤ q) : bestC B F to h < q := by
  by_cases h0 : 0 < h
  · have := bestC_lt B F to h0; omega
  · obtain rfl : h = 0 := by omega
    exact hq
theorem Ap.keepOwn {B N : Nat} {e e' t : TypeId} {va vb : Value} {na nb : Nat} {xs ys zs : List Value} {u v v0 : Value} {sa pa sb pb n : Nat} {W w' : World} {g : Nat → Option Pick} (h : Ap B e e' va vb na nb xs ys u v sa pa sb pb W g w') (hA : W.ownsRow B e 1 va na xs) (hB : W.ownsRow B e' 1 vb nb ys)
    (h0 : W.ownsRow N t 1 v0 n zs) (h1 : t ≠ e) (h2 : t ≠ e') : w'.ownsRow N t 1 v0 n zs :=
  own_same h0 fun q hq => h.keep q (own_lt h0 hq).2 (own_ne h0 hA h1 q hq) (own_ne h0 hB h2 q hq)
theorem RowsOwn.more {B k : Nat} {ts : List TRow} {w w' : World} {A B' : Option Addr} {c c' : Nat} {r : TRow} (h : RowsOwn B ts (.slice A k c) k w) (hr : w.ownsRow B 3 1 r.val r.n (r.xs.map (.int .i64)))
    (hrow : w'.ownsRow B 31 1 (.slice B' (k + 1) c') (k + 1) (ts.map TRow.val ++ [r.val])) (hk : ∀ (z : TRow), w.ownsRow B 3 1 z.val z.n (z.xs.map (.int .i64)) → w'.ownsRow B 3 1 z.val z.n (z.xs.map (.int .i64))) :
    RowsOwn B (ts ++ [r]) (.slice B' (k + 1) c') (k + 1) w' := by
  refine ⟨by rw [List.map_append]; exact hrow, fun s hs => ?_⟩
  rcases List.mem_append.1 hs with hs | hs
  · exact hk s (h.each s hs)
  · obtain rfl : s = r := by simpa using hs
    exact hk s hr

theorem ChI.step {m : Mnt} {day pos : Int} {l : List Tgt} {N0 cB tB k : Nat} {Xp Xq : Option Addr} {cp cq : Nat} {tsP tsC : List TRow} {W w1 w2 w0 : World} {Ac Ay : Option Addr} {sn cc cy : Nat} {xc xy : List Int} {sa pa sb pb : Nat} {g : Nat → Option Pick} {y z : Pick}
    (h : ChI m day pos l N0 cB tB k Xp Xq cp cq tsP tsC W) (hc : W.ownsRow N0 3 1 (.slice Ac sn cc) sn (xc.map (.int .i64))) (hy : W.ownsRow N0 3 1 (.slice Ay sn cy) sn (xy.map (.int .i64)))
    (hap : Ap N0 31 31 (.slice Xp k cp) (.slice Xq k cq) k k (tsP.map TRow.val) (tsC.map TRow.val) (.slice Ac sn cc) (.slice Ay sn cy) sa pa sb pb W g w1) (hgy : g pa = some y) (hgz : g pb = some z)
    (hw2 : w2 = (w1.setCell ⟨cB, 1, none⟩ (.slice y.1 (k + 1) y.2)).setCell ⟨tB, 0, none⟩ (.slice z.1 (k + 1) z.2)) (hcB : cB < N0) (htB : tB < N0) (hne : cB ≠ tB) (ht : Tch (fun g => g = cB ∨ g = tB) w0 W) (hN0 : w0.heap.size = N0)
    (ec : xc = dpB m day pos l (k + 1)) (ey : xy = cameL m day pos l k) :
    ChI m day pos l N0 cB tB (k + 1) y.1 z.1 y.2 z.2 (tsP ++ [⟨Ac, sn, cc, xc⟩]) (tsC ++ [⟨Ay, sn, cy, xy⟩]) w2 ∧ Tch (fun g => g = cB ∨ g = tB) w0 w2 ∧ w2.ownsRow N0 3 1 (.slice Ac sn cc) sn (xc.map (.int .i64)) ∧
      (∀ q T cs, Blk W q T cs → T ≠ 31 → q ≠ cB → q ≠ tB → Blk w2 q T cs) := by
  obtain ⟨hoA, hoB, hoS⟩ := hap.ends hgy hgz
  have a1 := own_blk_ne h.pots.row h.cb (by decide)
  have a2 := own_blk_ne h.pots.row h.tb (by decide)
  have b1 := own_blk_ne h.came.row h.cb (by decide)
  have b2 := own_blk_ne h.came.row h.tb (by decide)
  have k1 := hap.blk h.cb a1 b1
  have k2 := hap.blk h.tb a2 b2
  have far : ∀ {N s n : Nat} {t : TypeId} {v : Value} {xs : List Value}, w1.ownsRow N t s v n xs → v.ownBlock ≠ some cB → v.ownBlock ≠ some tB → w2.ownsRow N t s v n xs := fun h n1 n2 => by rw [hw2]; exact own_set (own_set h n1 _) n2 _
  have rowOf : ∀ (r : TRow), W.ownsRow N0 3 1 r.val r.n (r.xs.map (.int .i64)) → w2.ownsRow N0 3 1 r.val r.n (r.xs.map (.int .i64)) := fun r hr =>
    far (hap.keepOwn h.pots.row h.came.row hr (by decide) (by decide)) (own_blk_ne hr h.cb (by decide)) (own_blk_ne hr h.tb (by decide))
  refine ⟨⟨?_, ?_, h.pots.more hc (far hoA (own_blk_ne hoA k1 (by decide)) (own_blk_ne hoA k2 (by decide))) rowOf, h.came.more hy (far hoB (own_blk_ne hoB k1 (by decide)) (own_blk_ne hoB k2 (by decide))) rowOf, hoS, ?_, ?_⟩, ?_, rowOf ⟨Ac, sn, cc, xc⟩ hc, ?_⟩
  · rw [hw2]
    simpa using (k1.set_ 1 (.slice y.1 (k + 1) y.2)).far (p := ⟨tB, 0, none⟩) hne (.slice z.1 (k + 1) z.2)
  · rw [hw2]
    simpa using (k2.far (p := ⟨cB, 1, none⟩) (fun e => hne e.symm) (.slice y.1 (k + 1) y.2)).set_ 0 (.slice z.1 (k + 1) z.2)
  · rw [List.map_append, h.px, List.range_succ, List.map_append, ec]; rfl
  · rw [List.map_append, h.cx, List.range_succ, List.map_append, ey]; rfl
  · rw [hw2]
    refine Tch.setCell (p := ⟨tB, 0, none⟩) (Tch.setCell (p := ⟨cB, 1, none⟩) ?_ (.inl (.inl rfl)) _) (.inl (.inr rfl)) _
    refine ht.then_ (Y := fun q => N0 ≤ q) ⟨hap.os, hap.tape, hap.output, hap.size, fun i hi hx => ?_⟩ (fun i hi hx => absurd hi (by have : N0 ≤ i := hx; omega))
    have hx : ¬ N0 ≤ i := hx
    exact hap.keep i hi (fun e => hx (own_lt h.pots.row e).1) (fun e => hx (own_lt h.came.row e).1)
  · intro q T cs hq hT n1 n2
    rw [hw2]
    exact ((hap.blk hq (own_blk_ne h.pots.row hq (fun e => hT e.symm)) (own_blk_ne h.came.row hq (fun e => hT e.symm))).far (p := ⟨cB, 1, none⟩) n1 _).far (p := ⟨tB, 0, none⟩) n2 _

def ChPost (m : Mnt) (day pos : Int) (l : List Tgt) (w : World) (e : Ending) (w' : World) : Prop :=
  ∃ At ct Xp cp tsP ks, e = .returned (.tuple #[.agg #[.slice At l.length ct, .slice Xp l.length cp], .int .i64 (leastC m day pos l)]) ∧ Below w.heap.size w w' ∧ w'.ownsRow w.heap.size 3 1 (.slice At l.length ct) l.length (ks.map (.int .i64)) ∧ RowsOwn w.heap.size tsP (.slice Xp l.length cp) l.length w' ∧ tsP.map TRow.xs = potL m day pos l ∧ pathErr m day l ks = 0 ∧ costL pos (pathL m day l ks) = leastC m day pos l
theorem RowsOwn.mono {B B' k : Nat} {ts : List TRow} {u : Value} {w : World} (h : RowsOwn B ts u k w) (hb : B' ≤ B) : RowsOwn B' ts u k w := ⟨own_mono h.row hb, fun r hr => own_mono (h.each r hr) hb⟩
/-- The turns that have been chosen behind j steps from the end. -/
def tuF (m : Mnt) (day pos : Int) (l : List Tgt) (k0 j : Nat) (i : Nat) : Value := .int .i64 (if l.length - j ≤ i then (turnsC m day pos l k0)[i]?.getD 0 else 0)
/-- Behind j rounds of the way back. -/
structure BkI (m : Mnt) (day pos : Int) (l : List Tgt) (k0 kB tB : Nat) (wA : World) (j : Nat) (W : World) : Prop where
  tch : Tch (fun g => g = kB ∨ g = tB) wA W
  kb : Blk W kB 3 #[.int .i64 (wayC m day pos l k0 j)]
  tb : RB W tB 3 l.length (tuF m day pos l k0 j)
theorem BkI.keep {m : Mnt} {day pos : Int} {l : List Tgt} {k0 kB tB j : Nat} {wA W W' : World} (h : BkI m day pos l k0 kB tB wA j W) (hk : kB < wA.heap.size) (ht : tB < wA.heap.size) (t : Tch (fun g => wA.heap.size ≤ g) W W') : BkI m day pos l k0 kB tB wA j W' :=
  ⟨h.tch.then_ t (fun i hi hx => absurd hi (by have : wA.heap.size ≤ i := hx; omega)), t.blk h.kb (by show ¬ wA.heap.size ≤ kB; omega), t.rb h.tb (by show ¬ wA.heap.size ≤ tB; omega)⟩
theorem tuF_all {m : Mnt} {day pos : Int} {l : List Tgt} {k0 : Nat} : (List.range l.length).map (tuF m day pos l k0 l.length) = (turnsC m day pos l k0).map (.int .i64) := by
  apply List.ext_getElem?
  intro i
  rw [List.getElem?_map, List.getElem?_map]
  by_cases hi : i < l.length
  · rw [List.getElem?_range hi, List.getElem?_eq_getElem (by rw [turnsC_len]; exact hi)]
    simp only [Option.map_some, tuF]
    rw [if_pos (by omega), List.getElem?_eq_getElem (by rw [turnsC_len]; exact hi)]
    rfl
  · rw [List.getElem?_eq_none (by simp; omega), List.getElem?_eq_none (by rw [turnsC_len]; omega)]
    rfl
theorem tuF_step {m : Mnt} {day pos : Int} {l : List Tgt} {k0 j q : Nat} (hq : q + j + 1 = l.length) (i : Nat) : (if i = q then (.int .i64 ((turnsC m day pos l k0)[q]?.getD 0) : Value) else tuF m day pos l k0 j i) = tuF m day pos l k0 (j + 1) i := by
  by_cases e : i = q
  · subst e
    rw [if_pos rfl]
    unfold tuF
    rw [if_pos (by omega)]
  · rw [if_neg e]
    unfold tuF
    by_cases h : l.length - j ≤ i
    · rw [if_pos h, if_pos (by omega)]
    · rw [if_neg h, if_neg (by omega)]

set_option maxRecDepth 100000 in
set_option maxHeartbeats 16000000 in
theorem pchoose_any (m : Mnt) (day pos : Int) (l : List Tgt) (tb : Nat) (A : Option Addr) (c : Nat) (S : List Stp) (w : World) (hT : TourAt m day pos l tb A c S w) (hm : mntErr m = 0) (hp : m.ls ≤ pos ∧ pos ≤ m.ms) (hne : ∀ t ∈ l, 0 < (turnsV m day t).length) (hn20 : l.length ≤ 20) :
    Calls Try.prog 21 #[.pointer (some ⟨tb, 0, none⟩)] w (ChPost m day pos l w) := by
  obtain ⟨n, hn⟩ : ∃ n, l.length = n := ⟨_, rfl⟩
  have HT := Lib.hid hT
  have HM := Lib.hid hm
  have HPOS := Lib.hid hp
  have HNE := Lib.hid hne
  have hbl0 := hT.blk
  rw [hn] at hbl0 hn20
  have HBL := Lib.hid hbl0
  have HN := Lib.hid hn
  clear hT hm hp hne hbl0 hn
  refine callsIn_wide.1 (callsIn_of_wp_marks (n := 10) Try.func21 rfl trivial (wpIn_wide.2 ?_) rfl)
  simp only [Try.ntmps21, List.size_toArray, List.length_cons, List.length_nil, Nat.reduceAdd, Nat.reduceSub, Array.replicate_succ, Array.replicate_zero, List.push_toArray, List.append_toArray, List.nil_append, List.cons_append]
  go_wp2_with fail
  generalize hwn : ((w.alloc (.cells #[.slice none 0 0, .slice none 0 0] 43)).alloc (.cells #[.slice none 0 0, .slice none 0 0] 43)) = w1
  have hbn : Below w.heap.size w w1 := by rw [← hwn]; repeat' (first | exact Below.refl _ _ | refine below_drewN ?_ _ | refine Below.drew ?_ | refine Below.alloc ?_ (by first | omega | (simp; done) | (simp; omega) | (simp [World.setCell]; omega)) _ | refine Below.setCell ?_ (by first | omega | (simp; done) | (simp; omega)) _)
  have HB1 := Lib.hid (show Below w.heap.size w w1 from hbn)
  have K0_1 := Lib.hid (show Blk w1 (w.heap.size) 43 #[.slice none 0 0, .slice none 0 0] by rw [← hwn]; repeat' (first | exact Blk.at_ _ (by first | rfl | (simp; done) | (simp; omega)) _ _ | refine Blk.drewN ?_ _ | refine Blk.drew ?_ | refine Blk.alloc ?_ _ | refine Blk.far ?_ (by first | omega | (simp; done) | (simp; omega)) _ | assumption))
  have K1_1 := Lib.hid (show Blk w1 (w.heap.size + 1) 43 #[.slice none 0 0, .slice none 0 0] by rw [← hwn]; repeat' (first | exact Blk.at_ _ (by first | rfl | (simp; done) | (simp; omega)) _ _ | refine Blk.drewN ?_ _ | refine Blk.drew ?_ | refine Blk.alloc ?_ _ | refine Blk.far ?_ (by first | omega | (simp; done) | (simp; omega)) _ | assumption))
  have HN1 := Lib.hid hbn
  have hz1 := hbn.size
  clear hwn hbn
  have l0_1 : w.heap.size < w1.heap.size := K0_1.out.lt
  have z0_0_1 : w1.cell? ⟨w.heap.size, 0, none⟩ = some (.slice none 0 0) := K0_1.out.cell 0
  have z0_1_1 : w1.cell? ⟨w.heap.size, 1, none⟩ = some (.slice none 0 0) := K0_1.out.cell 1
  have l1_1 : w.heap.size + 1 < w1.heap.size := K1_1.out.lt
  have z1_0_1 : w1.cell? ⟨w.heap.size + 1, 0, none⟩ = some (.slice none 0 0) := K1_1.out.cell 0
  have z1_1_1 : w1.cell? ⟨w.heap.size + 1, 1, none⟩ = some (.slice none 0 0) := K1_1.out.cell 1
  have hblk1 := step_blk HN1.out HBL.out
  have hq1 : w.heap.size + 1 < w1.heap.size := l1_1
  apply share (Fact := fun (x z : Pick2) (wz : World) => Below w1.heap.size w1 wz ∧ Reads wz wz.heap.size 1 x.1.1 1 (([0] : List Int).map (.int .i64)) ∧ Reads wz wz.heap.size 1 z.1.1 1 (([pos] : List Int).map (.int .i64)))
  · intro key
    refine Fx.regionM (fun W g f w' => Kp (PfI [0] [pos] 0 5) W g w') (fun i (x : Pick2) => .slice x.1.1 1 1) (by kernel_rfl) ?_ ?_
    · intro f hf0
      exact Kp.start
    first
    | (refine Fx.WM.skip 1 (by rfl) (by kernel_rfl) (by kernel_rfl) (by kernel_rfl) (by rfl) (fun g f w h => h) ?_; simp only [Act.put, List.setIfInBounds_toArray, List.set_cons_zero, List.set_cons_succ])
    | (refine Fx.WM.val_ 1 ?_ (by rfl) (by kernel_rfl) (by kernel_rfl) (by kernel_rfl) (by rfl) ?_ (fun g f w h => h) ?_
       rotate_left
       · intro g f w' hx hD hk
         obtain hkp := id hD
         clear hx hk hD hkp
         go_simp
         try rfl
       simp only [Act.put, List.setIfInBounds_toArray, List.set_cons_zero, List.set_cons_succ])
    first
    | (refine Fx.WM.skip 2 (by rfl) (by kernel_rfl) (by kernel_rfl) (by kernel_rfl) (by rfl) (fun g f w h => h) ?_; simp only [Act.put, List.setIfInBounds_toArray, List.set_cons_zero, List.set_cons_succ])
    | (refine Fx.WM.val_ 2 ?_ (by rfl) (by kernel_rfl) (by kernel_rfl) (by kernel_rfl) (by rfl) ?_ (fun g f w h => h) ?_
       rotate_left
       · intro g f w' hx hD hk
         obtain hkp := id hD
         clear hx hk hD hkp
         go_simp
         try rfl
       simp only [Act.put, List.setIfInBounds_toArray, List.set_cons_zero, List.set_cons_succ])
    first
    | (refine Fx.WM.skip 3 (by rfl) (by kernel_rfl) (by kernel_rfl) (by kernel_rfl) (by rfl) (fun g f w h => h) ?_; simp only [Act.put, List.setIfInBounds_toArray, List.set_cons_zero, List.set_cons_succ])
    | (refine Fx.WM.val_ 3 ?_ (by rfl) (by kernel_rfl) (by kernel_rfl) (by kernel_rfl) (by rfl) ?_ (fun g f w h => h) ?_
       rotate_left
       · intro g f w' hx hD hk
         obtain hkp := id hD
         clear hx hk hD hkp
         go_simp
         try rfl
       simp only [Act.put, List.setIfInBounds_toArray, List.set_cons_zero, List.set_cons_succ])
    first
    | (refine Fx.WM.skip 4 (by rfl) (by kernel_rfl) (by kernel_rfl) (by kernel_rfl) (by rfl) (fun g f w h => h) ?_; simp only [Act.put, List.setIfInBounds_toArray, List.set_cons_zero, List.set_cons_succ])
    | (refine Fx.WM.val_ 4 ?_ (by rfl) (by kernel_rfl) (by kernel_rfl) (by kernel_rfl) (by rfl) ?_ (fun g f w h => h) ?_
       rotate_left
       · intro g f w' hx hD hk
         obtain hkp := id hD
         have yt := (Blk.below hblk1 hkp.bel hblk1.lt).cell 0
         clear hx hk hD hkp
         go_simp
         try rfl
       simp only [Act.put, List.setIfInBounds_toArray, List.set_cons_zero, List.set_cons_succ])
    refine Fx.WM.choose2 0 5 (by rfl) (by rfl) (by kernel_rfl) (by rfl) (by rfl) ?_ ?_ ?_ ?_
    · skip
      refine Fx.Chooses.make (by rfl) ?_
      intro f w' hD hk
      refine ⟨((some ⟨w'.heap.size, 0, none⟩, 1), (none, 0)), w'.alloc (.cells #[.int .i64 (0)] 3), ?_, ?_⟩
      · clear hk hD
        go_simp
        try rfl
      · exact hD.choose PfI.stb ((Below.refl _ _).alloc (Nat.le_refl _) _) 0 _ ⟨fun _ => Blk.reads (Blk.new _ _ _) rfl, fun e => absurd e (by decide)⟩
    · skip
      refine Fx.Chooses.make (by rfl) ?_
      intro f w' hD hk
      refine ⟨((some ⟨w'.heap.size, 0, none⟩, 1), (none, 0)), w'.alloc (.cells #[.int .i64 (pos)] 3), ?_, ?_⟩
      · clear hk hD
        go_simp
        try rfl
      · exact hD.choose PfI.stb ((Below.refl _ _).alloc (Nat.le_refl _) _) 5 _ ⟨fun e => absurd e (by decide), fun _ => Blk.reads (Blk.new _ _ _) rfl⟩
    · intro x
      simp only [Act.put, List.setIfInBounds_toArray, List.set_cons_zero, List.set_cons_succ]
      first
      | (refine Fx.WM.skip 6 (by rfl) (by kernel_rfl) (by kernel_rfl) (by kernel_rfl) (by rfl) (fun g f w h => h) ?_; simp only [Act.put, List.setIfInBounds_toArray, List.set_cons_zero, List.set_cons_succ])
      | (refine Fx.WM.val_ 6 ?_ (by rfl) (by kernel_rfl) (by kernel_rfl) (by kernel_rfl) (by rfl) ?_ (fun g f w h => h) ?_
         rotate_left
         · intro g f w' hx hD hk
           obtain hkp := id hD
           clear hx hk hD hkp
           go_simp
           try rfl
         simp only [Act.put, List.setIfInBounds_toArray, List.set_cons_zero, List.set_cons_succ])
      refine Fx.WM.choose 5 (by rfl) (by kernel_rfl) (by rfl) ?_ ?_
      · skip
        refine Fx.Chooses.make (by rfl) ?_
        intro f w' hD hk
        refine ⟨((some ⟨w'.heap.size, 0, none⟩, 1), (none, 0)), w'.alloc (.cells #[.int .i64 (pos)] 3), ?_, ?_⟩
        · clear hk hD
          go_simp
          try rfl
        · exact hD.choose PfI.stb ((Below.refl _ _).alloc (Nat.le_refl _) _) 5 _ ⟨fun e => absurd e (by decide), fun _ => Blk.reads (Blk.new _ _ _) rfl⟩
      intro z
      simp only [Act.put, List.setIfInBounds_toArray, List.set_cons_zero, List.set_cons_succ]
      first
      | (refine Fx.WM.skip 7 (by rfl) (by kernel_rfl) (by kernel_rfl) (by kernel_rfl) (by rfl) (fun g f w h => h) ?_; simp only [Act.put, List.setIfInBounds_toArray, List.set_cons_zero, List.set_cons_succ])
      | (refine Fx.WM.val_ 7 ?_ (by rfl) (by kernel_rfl) (by kernel_rfl) (by kernel_rfl) (by rfl) ?_ (fun g f w h => h) ?_
         rotate_left
         · intro g f w' hx hD hk
           obtain hkp := id hD
           clear hx hk hD hkp
           go_simp
           try rfl
         simp only [Act.put, List.setIfInBounds_toArray, List.set_cons_zero, List.set_cons_succ])
      refine Fx.WM.nil (by kernel_rfl) ?_
      intro wz hkp
      exact key x z wz ⟨hkp.bel, (hkp.has 0 x (by rfl)).1 rfl, (hkp.has 5 z (by rfl)).2 rfl⟩
    · intro z
      simp only [Act.put, List.setIfInBounds_toArray, List.set_cons_zero, List.set_cons_succ]
      refine Fx.WM.choose 0 (by rfl) (by kernel_rfl) (by rfl) ?_ ?_
      · skip
        refine Fx.Chooses.make (by rfl) ?_
        intro f w' hD hk
        refine ⟨((some ⟨w'.heap.size, 0, none⟩, 1), (none, 0)), w'.alloc (.cells #[.int .i64 (0)] 3), ?_, ?_⟩
        · clear hk hD
          go_simp
          try rfl
        · exact hD.choose PfI.stb ((Below.refl _ _).alloc (Nat.le_refl _) _) 0 _ ⟨fun _ => Blk.reads (Blk.new _ _ _) rfl, fun e => absurd e (by decide)⟩
      intro x
      simp only [Act.put, List.setIfInBounds_toArray, List.set_cons_zero, List.set_cons_succ]
      first
      | (refine Fx.WM.skip 6 (by rfl) (by kernel_rfl) (by kernel_rfl) (by kernel_rfl) (by rfl) (fun g f w h => h) ?_; simp only [Act.put, List.setIfInBounds_toArray, List.set_cons_zero, List.set_cons_succ])
      | (refine Fx.WM.val_ 6 ?_ (by rfl) (by kernel_rfl) (by kernel_rfl) (by kernel_rfl) (by rfl) ?_ (fun g f w h => h) ?_
         rotate_left
         · intro g f w' hx hD hk
           obtain hkp := id hD
           clear hx hk hD hkp
           go_simp
           try rfl
         simp only [Act.put, List.setIfInBounds_toArray, List.set_cons_zero, List.set_cons_succ])
      first
      | (refine Fx.WM.skip 7 (by rfl) (by kernel_rfl) (by kernel_rfl) (by kernel_rfl) (by rfl) (fun g f w h => h) ?_; simp only [Act.put, List.setIfInBounds_toArray, List.set_cons_zero, List.set_cons_succ])
      | (refine Fx.WM.val_ 7 ?_ (by rfl) (by kernel_rfl) (by kernel_rfl) (by kernel_rfl) (by rfl) ?_ (fun g f w h => h) ?_
         rotate_left
         · intro g f w' hx hD hk
           obtain hkp := id hD
           clear hx hk hD hkp
           go_simp
           try rfl
         simp only [Act.put, List.setIfInBounds_toArray, List.set_cons_zero, List.set_cons_succ])
      refine Fx.WM.nil (by kernel_rfl) ?_
      intro wz hkp
      exact key x z wz ⟨hkp.bel, (hkp.has 0 x (by rfl)).1 rfl, (hkp.has 5 z (by rfl)).2 rfl⟩
  rintro x z w2 ⟨hb, ha, hf⟩
  have HB2 := Lib.hid (show Below w.heap.size w w2 from step_below hb (by repeat' (first | exact Below.refl _ _ | exact HB1.out | refine below_drewN ?_ _ | refine Below.drew ?_ | refine Below.alloc ?_ (by first | omega | (simp; done) | (simp; omega) | (simp [World.setCell]; omega)) _ | refine Below.setCell ?_ (by first | omega | (simp; done) | (simp; omega)) _ | assumption)))
  have K0_2 := Lib.hid (step_blk hb (show Blk _ (w.heap.size) 43 #[.slice none 0 0, .slice none 0 0] by repeat' (first | exact K0_1.out | exact K1_1.out | exact Blk.at_ _ (by first | rfl | (simp; done) | (simp; omega)) _ _ | refine Blk.drewN ?_ _ | refine Blk.drew ?_ | refine Blk.alloc ?_ _ | refine Blk.far ?_ (by first | omega | (simp; done) | (simp; omega)) _ | assumption)))
  have K1_2 := Lib.hid (step_blk hb (show Blk _ (w.heap.size + 1) 43 #[.slice none 0 0, .slice none 0 0] by repeat' (first | exact K0_1.out | exact K1_1.out | exact Blk.at_ _ (by first | rfl | (simp; done) | (simp; omega)) _ _ | refine Blk.drewN ?_ _ | refine Blk.drew ?_ | refine Blk.alloc ?_ _ | refine Blk.far ?_ (by first | omega | (simp; done) | (simp; omega)) _ | assumption)))
  have hz2 := hb.size
  try simp only [World.size_alloc, World.drewN, World.drew] at hz2
  clear hb K0_1 K1_1 z0_0_1 z0_1_1 l0_1 z1_0_1 z1_1_1 l1_1
  have l0_2 : w.heap.size < w2.heap.size := K0_2.out.lt
  have z0_0_2 : w2.cell? ⟨w.heap.size, 0, none⟩ = some (.slice none 0 0) := K0_2.out.cell 0
  have z0_1_2 : w2.cell? ⟨w.heap.size, 1, none⟩ = some (.slice none 0 0) := K0_2.out.cell 1
  have l1_2 : w.heap.size + 1 < w2.heap.size := K1_2.out.lt
  have z1_0_2 : w2.cell? ⟨w.heap.size + 1, 0, none⟩ = some (.slice none 0 0) := K1_2.out.cell 0
  have z1_1_2 : w2.cell? ⟨w.heap.size + 1, 1, none⟩ = some (.slice none 0 0) := K1_2.out.cell 1
  clear hblk1
  have R0_2 := Lib.hid ha
  clear ha
  have R1_2 := Lib.hid hf
  clear hf
  have zt1 := ((HBL.out.below HB2.out HBL.out.lt).alloc (.cells #[.slice none 0 0] 41)).cell 1
  go_wp2_with fail
  clear zt1
  generalize hwn : (w2.alloc (.cells #[.slice none 0 0] 41)) = w3
  have hbn : Below w2.heap.size w2 w3 := by rw [← hwn]; repeat' (first | exact Below.refl _ _ | refine below_drewN ?_ _ | refine Below.drew ?_ | refine Below.alloc ?_ (by first | omega | (simp; done) | (simp; omega) | (simp [World.setCell]; omega)) _ | refine Below.setCell ?_ (by first | omega | (simp; done) | (simp; omega)) _)
  have HB3 := Lib.hid (show Below w.heap.size w w3 from HB2.out.trans (hbn.mono HB2.out.size))
  have K0_3 := Lib.hid (step_blk hbn K0_2.out)
  have K1_3 := Lib.hid (step_blk hbn K1_2.out)
  have K2_3 := Lib.hid (show Blk w3 (w2.heap.size) 41 #[.slice none 0 0] by rw [← hwn]; repeat' (first | exact Blk.at_ _ (by first | rfl | (simp; done) | (simp; omega)) _ _ | refine Blk.drewN ?_ _ | refine Blk.drew ?_ | refine Blk.alloc ?_ _ | refine Blk.far ?_ (by first | omega | (simp; done) | (simp; omega)) _ | assumption))
  have R0_3 := Lib.hid ((R0_2.out.below hbn).more hbn.size)
  have R1_3 := Lib.hid ((R1_2.out.below hbn).more hbn.size)
  have HN3 := Lib.hid hbn
  have hz3 := hbn.size
  clear hwn hbn K0_2 l0_2 z0_0_2 z0_1_2 K1_2 l1_2 z1_0_2 z1_1_2 R0_2 R1_2
  have l0_3 : w.heap.size < w3.heap.size := K0_3.out.lt
  have z0_0_3 : w3.cell? ⟨w.heap.size, 0, none⟩ = some (.slice none 0 0) := K0_3.out.cell 0
  have z0_1_3 : w3.cell? ⟨w.heap.size, 1, none⟩ = some (.slice none 0 0) := K0_3.out.cell 1
  have l1_3 : w.heap.size + 1 < w3.heap.size := K1_3.out.lt
  have z1_0_3 : w3.cell? ⟨w.heap.size + 1, 0, none⟩ = some (.slice none 0 0) := K1_3.out.cell 0
  have z1_1_3 : w3.cell? ⟨w.heap.size + 1, 1, none⟩ = some (.slice none 0 0) := K1_3.out.cell 1
  have l2_3 : w2.heap.size < w3.heap.size := K2_3.out.lt
  have z2_0_3 : w3.cell? ⟨w2.heap.size, 0, none⟩ = some (.slice none 0 0) := K2_3.out.cell 0
  have hs13 : w1.heap.size ≤ w3.heap.size := Nat.le_trans hz2 hz3
  have hw1 : w.heap.size + 1 < w1.heap.size := hq1
  have htB : w2.heap.size < w3.heap.size := l2_3
  have hci : ChI m day pos l w3.heap.size (w.heap.size + 1) w2.heap.size 0 none none 0 0 [] [] w3 := ⟨K1_3.out, K2_3.out, ⟨World.ownsRow_nil _ _ _ _, fun r hr => absurd hr (by simp)⟩, ⟨World.ownsRow_nil _ _ _ _, fun r hr => absurd hr (by simp)⟩, fun q h => (nomatch h), rfl, rfl⟩
  have HCI := Lib.hid hci
  clear hci
  go_loopw [5, 6, 32] (fun b f i wr => ∃ (k q : Nat) (Ab : Option Addr) (cb : Nat) (Af : Option Addr) (cf : Nat) (Xp Xq : Option Addr) (cp cq : Nat) (tsP tsC : List TRow), k ≤ n ∧ q ≤ 1000 ∧ i = .int .i64 k ∧ b = .slice Ab q cb ∧ f = .slice Af q cf ∧ Tch (fun g => g = w.heap.size + 1 ∨ g = w2.heap.size) w3 wr ∧ ChI m day pos l w3.heap.size (w.heap.size + 1) w2.heap.size k Xp Xq cp cq tsP tsC wr ∧ Reads wr wr.heap.size 1 Ab q ((dpB m day pos l k).map (.int .i64)) ∧ Reads wr wr.heap.size 1 Af q ((froL m day pos l k).map (.int .i64))) (fun _ _ i _ => n - (intOf i).toNat)
  case atStart => exact ⟨0, 1, x.1.1, 1, z.1.1, 1, none, none, 0, 0, [], [], by omega, by omega, rfl, rfl, rfl, Tch.refl _ _, HCI.out, R0_3.out, R1_3.out⟩
  case round =>
    obtain ⟨k, q, Ab, cb, Af, cf, Xp, Xq, cp, cq, tsP, tsC, hk, hq1', rfl, rfl, rfl, ht5, hci5, hab, haf⟩ := hrel
    obtain ⟨w5, hnm⟩ : ∃ z : World, z = wr := ⟨_, rfl⟩
    subst hnm
    have HT5 := Lib.hid ht5
    have HC5 := Lib.hid hci5
    have hbw5 : Below w.heap.size w w5 := HB3.out.trans (ht5.below (B := w.heap.size) (fun g hg => by have hg : g = w.heap.size + 1 ∨ g = w2.heap.size := hg; omega) (by omega))
    have hs35 := ht5.size
    have hTour := HT.out.lay hbw5
    have HBW5 := Lib.hid hbw5
    clear ht5 hci5
    by_cases hlt : k < n
    · obtain ⟨sb, so, s, hAs, hsb, hs, s6, s7, hcs⟩ := hTour.row.stp (show k < l.length by rw [HN.out]; exact hlt)
      obtain ⟨-, o2⟩ := hTour.ok s (List.mem_of_getElem? hs)
      have hts : l[k]? = some s.t := by
        have := congrArg (fun z => z[k]?) hTour.ts
        simp only [List.getElem?_map, hs, Option.map_some] at this
        exact this.symm
      have c0 : w5.cell? ⟨sb, so + k * 8, none⟩ = some (.string s.t.name) := hcs 0 _ (by omega) rfl
      have c1 : w5.cell? ⟨sb, so + k * 8 + 1, none⟩ = some (.int .i64 s.t.az) := hcs 1 _ (by omega) rfl
      have c2 : w5.cell? ⟨sb, so + k * 8 + 2, none⟩ = some (.int .i64 s.t.ht) := hcs 2 _ (by omega) rfl
      have c3 : w5.cell? ⟨sb, so + k * 8 + 3, none⟩ = some (.int .i64 s.t.fr) := hcs 3 _ (by omega) rfl
      have c4 : w5.cell? ⟨sb, so + k * 8 + 4, none⟩ = some (.int .i64 s.t.to) := hcs 4 _ (by omega) rfl
      have c5 : w5.cell? ⟨sb, so + k * 8 + 5, none⟩ = some (.int .i64 s.t.dw) := hcs 5 _ (by omega) rfl
      have HSM : Hid (s ∈ S) := List.mem_of_getElem? hs
      obtain ⟨st, sA, sn, sc, sA', sc'⟩ := s
      simp only at s6 s7 o2 hts c0 c1 c2 c3 c4 c5
      have hfs : froL m day pos l (k + 1) = posV m day st := froL_succ hts
      have hq0 : 0 < q := by have h1 := fro_some (pos := pos) HNE.out k (by rw [HN.out]; omega); have h2 := haf.ilen; omega
      have hsn0 : 0 < sn := by have h1 := HNE.out st (List.mem_of_getElem? hts); have h2 := o2.ilen; unfold posV posL at h2; rw [List.length_map] at h2; omega
      have hsn1 : sn ≤ 1000 := by
        have h2 := o2.ilen
        unfold posV posL at h2
        rw [List.length_map] at h2
        have h3 := turnsV_len m day st
        omega
      obtain ⟨B, hB⟩ : ∃ B, dpB m day pos l k = B := ⟨_, rfl⟩
      obtain ⟨F, hF⟩ : ∃ F, froL m day pos l k = F := ⟨_, rfl⟩
      obtain ⟨P, hP⟩ : ∃ P, posV m day st = P := ⟨_, rfl⟩
      have hBi := dpB_in (l := l) HM.out HPOS.out HNE.out k (by rw [HN.out]; omega)
      have hFi := fro_in2 (day := day) (l := l) (i := k) HM.out HPOS.out
      have hPi := fro_in2 (day := day) (l := l) (i := k + 1) HM.out HPOS.out
      rw [hB] at hab hBi
      rw [hF] at haf hFi
      rw [hfs, hP] at hPi
      rw [hP] at o2 hfs
      have HB_ := Lib.hid hB
      have HF_ := Lib.hid hF
      have HFS := Lib.hid hfs
      have HBI := Lib.hid hBi
      have HFI := Lib.hid hFi
      have HPI := Lib.hid hPi
      have HPP := Lib.hid hP
      obtain ⟨ab, ao, _, rfl, hab0, -, -⟩ := hab.int_ hq0
      obtain ⟨fb, fo, _, rfl, hfb0, -, -⟩ := haf.int_ hq0
      obtain ⟨ob, oo, _, rfl, hob0, -, -⟩ := o2.int_ hsn0
      have HTS := Lib.hid hts
      have HO2 := Lib.hid o2
      clear hB hF hP hfs hBi hFi hPi
      have hkk : (k : Int) < (n : Int) := by omega
      clear hs hts o2 hcs hTour
      have HB5 := Lib.hid hbw5
      clear hbw5
      have R0_5 := Lib.hid hab
      clear hab
      have R1_5 := Lib.hid haf
      clear haf
      have ho5 := HO2.out
      have R2_5 := Lib.hid ho5
      clear ho5
      go_wp2_with fail
      generalize hwn : (w5.alloc (.cells #[.string st.name, .int .i64 (st.az), .int .i64 (st.ht), .int .i64 (st.fr), .int .i64 (st.to), .int .i64 (st.dw), .slice sA sn sc, .slice (some ⟨ob, oo, none⟩) sn sc'] 73)) = w6
      have hbn : Below w5.heap.size w5 w6 := by rw [← hwn]; repeat' (first | exact Below.refl _ _ | refine below_drewN ?_ _ | refine Below.drew ?_ | refine Below.alloc ?_ (by first | omega | (simp; done) | (simp; omega) | (simp [World.setCell]; omega)) _ | refine Below.setCell ?_ (by first | omega | (simp; done) | (simp; omega)) _)
      have HB6 := Lib.hid (show Below w.heap.size w w6 from HB5.out.trans (hbn.mono HB5.out.size))
      have K0_6 := Lib.hid (show Blk w6 (w5.heap.size) 73 #[.string st.name, .int .i64 (st.az), .int .i64 (st.ht), .int .i64 (st.fr), .int .i64 (st.to), .int .i64 (st.dw), .slice sA sn sc, .slice (some ⟨ob, oo, none⟩) sn sc'] by rw [← hwn]; repeat' (first | exact Blk.at_ _ (by first | rfl | (simp; done) | (simp; omega)) _ _ | refine Blk.drewN ?_ _ | refine Blk.drew ?_ | refine Blk.alloc ?_ _ | refine Blk.far ?_ (by first | omega | (simp; done) | (simp; omega)) _ | assumption))
      have R0_6 := Lib.hid ((R0_5.out.below hbn).more hbn.size)
      have R1_6 := Lib.hid ((R1_5.out.below hbn).more hbn.size)
      have R2_6 := Lib.hid ((R2_5.out.below hbn).more hbn.size)
      have HN6 := Lib.hid hbn
      have hz6 := hbn.size
      clear hwn hbn R0_5 R1_5 R2_5
      have l0_6 : w5.heap.size < w6.heap.size := K0_6.out.lt
      have z0_0_6 : w6.cell? ⟨w5.heap.size, 0, none⟩ = some (.string st.name) := K0_6.out.cell 0
      have z0_1_6 : w6.cell? ⟨w5.heap.size, 1, none⟩ = some (.int .i64 (st.az)) := K0_6.out.cell 1
      have z0_2_6 : w6.cell? ⟨w5.heap.size, 2, none⟩ = some (.int .i64 (st.ht)) := K0_6.out.cell 2
      have z0_3_6 : w6.cell? ⟨w5.heap.size, 3, none⟩ = some (.int .i64 (st.fr)) := K0_6.out.cell 3
      have z0_4_6 : w6.cell? ⟨w5.heap.size, 4, none⟩ = some (.int .i64 (st.to)) := K0_6.out.cell 4
      have z0_5_6 : w6.cell? ⟨w5.heap.size, 5, none⟩ = some (.int .i64 (st.dw)) := K0_6.out.cell 5
      have z0_6_6 : w6.cell? ⟨w5.heap.size, 6, none⟩ = some (.slice sA sn sc) := K0_6.out.cell 6
      have z0_7_6 : w6.cell? ⟨w5.heap.size, 7, none⟩ = some (.slice (some ⟨ob, oo, none⟩) sn sc') := K0_6.out.cell 7
      go_wp2
      go_loopw [10, 11, 39] (fun cv bv i wr => ∃ j : Nat, j ≤ sn ∧ i = .int .i64 j ∧ Below w6.heap.size w6 wr ∧ wr.ownsRow w6.heap.size 3 1 cv j (((rowC B F P).take j).map (.int .i64)) ∧ wr.ownsRow w6.heap.size 3 1 bv j (((byC B F P).take j).map (.int .i64)) ∧ ∀ b, cv.ownBlock = some b → bv.ownBlock ≠ some b) (fun _ _ i _ => sn - (intOf i).toNat)
      case atStart => exact ⟨0, by omega, rfl, Below.refl _ _, World.ownsRow_nil _ _ _ _, World.ownsRow_nil _ _ _ _, fun b h => (nomatch h)⟩
      case round =>
        obtain ⟨j, hj, rfl, hb7, hoc, hob, hsep⟩ := hrel
        obtain ⟨w7, hnm⟩ : ∃ z : World, z = wr := ⟨_, rfl⟩
        subst hnm
        have hk0 := K0_6.out.below hb7 l0_6
        have hr0 := (R0_6.out.below hb7).more hb7.size
        have hr1 := (R1_6.out.below hb7).more hb7.size
        have hr2 := (R2_6.out.below hb7).more hb7.size
        have hbw7 := HB6.out.trans (hb7.mono HB6.out.size)
        have H67 := Lib.hid hb7
        have HOC := Lib.hid hoc
        have HOB := Lib.hid hob
        have HSEP := Lib.hid hsep
        have hs67 := hb7.size
        clear hb7 hoc hob hsep
        have HB7 := Lib.hid hbw7
        have K0_7 := Lib.hid (show Blk w7 (w5.heap.size) 73 #[.string st.name, .int .i64 (st.az), .int .i64 (st.ht), .int .i64 (st.fr), .int .i64 (st.to), .int .i64 (st.dw), .slice sA sn sc, .slice (some ⟨ob, oo, none⟩) sn sc'] from hk0)
        clear hbw7 hk0
        have l0_7 : w5.heap.size < w7.heap.size := K0_7.out.lt
        have z0_0_7 : w7.cell? ⟨w5.heap.size, 0, none⟩ = some (.string st.name) := K0_7.out.cell 0
        have z0_1_7 : w7.cell? ⟨w5.heap.size, 1, none⟩ = some (.int .i64 (st.az)) := K0_7.out.cell 1
        have z0_2_7 : w7.cell? ⟨w5.heap.size, 2, none⟩ = some (.int .i64 (st.ht)) := K0_7.out.cell 2
        have z0_3_7 : w7.cell? ⟨w5.heap.size, 3, none⟩ = some (.int .i64 (st.fr)) := K0_7.out.cell 3
        have z0_4_7 : w7.cell? ⟨w5.heap.size, 4, none⟩ = some (.int .i64 (st.to)) := K0_7.out.cell 4
        have z0_5_7 : w7.cell? ⟨w5.heap.size, 5, none⟩ = some (.int .i64 (st.dw)) := K0_7.out.cell 5
        have z0_6_7 : w7.cell? ⟨w5.heap.size, 6, none⟩ = some (.slice sA sn sc) := K0_7.out.cell 6
        have z0_7_7 : w7.cell? ⟨w5.heap.size, 7, none⟩ = some (.slice (some ⟨ob, oo, none⟩) sn sc') := K0_7.out.cell 7
        have R0_7 := Lib.hid hr0
        clear hr0
        have R1_7 := Lib.hid hr1
        clear hr1
        have R2_7 := Lib.hid hr2
        clear hr2
        by_cases hlt2 : j < sn
        · obtain ⟨_, _, to, hA, hob1, hto, t0⟩ := R2_7.out.int_ hlt2
          cases hA
          have htr := HPI.out to (List.mem_of_getElem? hto)
          have HTO := Lib.hid hto
          have hjj : (j : Int) < (sn : Int) := by omega
          clear hto
          go_wp2
          go_loopw [14, 45] (fun best i wr => ∃ h : Nat, h ≤ q ∧ best = .int .i64 ((bestC B F to h : Nat) : Int) ∧ i = .int .i64 h ∧ Below w7.heap.size w7 wr) (fun _ i _ => q - (intOf i).toNat)
          case atStart => exact ⟨0, by omega, rfl, rfl, Below.refl _ _⟩
          case round =>
            obtain ⟨h, hh, rfl, rfl, hb8⟩ := hrel
            obtain ⟨w8, hnm⟩ : ∃ z : World, z = wr := ⟨_, rfl⟩
            subst hnm
            have hr0 := (R0_7.out.below hb8).more hb8.size
            have hr1 := (R1_7.out.below hb8).more hb8.size
            have hbw8 := HB7.out.trans (hb8.mono HB7.out.size)
            have H78 := Lib.hid hb8
            have hs78 := hb8.size
            obtain ⟨bh, hbh⟩ : ∃ bh, bestC B F to h = bh := ⟨_, rfl⟩
            have hbq := bestC_lt' B F to hq0 hh
            rw [hbh] at hbq ⊢
            have HBH := Lib.hid hbh
            clear hb8 hbh
            by_cases hlt3 : h < q
            · obtain ⟨_, _, b1, hA, hab8, hb1, a0⟩ := hr0.int_ hlt3
              cases hA
              obtain ⟨_, _, f1, hA, hfb8, hf1, f0⟩ := hr1.int_ hlt3
              cases hA
              obtain ⟨_, _, b2, hA, -, hb2, a1⟩ := hr0.int_ hbq
              cases hA
              obtain ⟨_, _, f2, hA, -, hf2, f3⟩ := hr1.int_ hbq
              cases hA
              have i1 := HBI.out b1 (List.mem_of_getElem? hb1)
              have i2 := HBI.out b2 (List.mem_of_getElem? hb2)
              have j1 := HFI.out f1 (List.mem_of_getElem? hf1)
              have j2 := HFI.out f2 (List.mem_of_getElem? hf2)
              have k1 := cost_bound2 j1 htr
              have k2 := cost_bound2 j2 htr
              obtain ⟨v1, hv1⟩ : ∃ v, costF f1 to = v := ⟨_, rfl⟩
              obtain ⟨v2, hv2⟩ : ∃ v, costF f2 to = v := ⟨_, rfl⟩
              have y1 : valC B F to h = b1 + v1 := by unfold valC; rw [hb1, hf1, ← hv1]; rfl
              have y2 : valC B F to bh = b2 + v2 := by unfold valC; rw [hb2, hf2, ← hv2]; rfl
              rw [hv1] at k1
              rw [hv2] at k2
              have w1_ := IntWalk.i64_in (b1 + v1) ⟨by omega, by omega⟩
              have w2_ := IntWalk.i64_in (b2 + v2) ⟨by omega, by omega⟩
              have hhq : (h : Int) < (q : Int) := by omega
              have hbqi : (bh : Int) < (q : Int) := by omega
              have p1 : PosR f1 := by unfold PosR; omega
              have p2 : PosR f2 := by unfold PosR; omega
              have p3 : PosR to := by unfold PosR; omega
              have hsucc : bestC B F to (h + 1) = if b1 + v1 < b2 + v2 then h else bh := by
                have hb := HBH.out
                show (if valC B F to h < valC B F to (bestC B F to h) then h else bestC B F to h) = _
                rw [hb, y1, y2]
              obtain ⟨tt, ht⟩ : ∃ tt, decide (b1 + v1 < b2 + v2) = tt := ⟨_, rfl⟩
              have HV1 := Lib.hid hv1
              have HV2 := Lib.hid hv2
              have HP1 := Lib.hid p1
              have HP2 := Lib.hid p2
              have HP3 := Lib.hid p3
              have HSU := Lib.hid hsucc
              clear hv1 hv2 p1 p2 p3 hsucc y1 y2 k1 k2 i1 i2 j1 j2 hb1 hb2 hf1 hf2 hr0 hr1
              go_wp2
              have HB8 := Lib.hid hbw8
              clear hbw8
              refine Fx.regionW (fun W f w' => Below W.heap.size W w') (by kernel_rfl) (by kernel_rfl) ?_ ?_
              · intro f hf0
                exact below_drewN (Below.refl _ _) 1
              repeat (first
                | (refine Fx.skip_ (by rfl) (fun f w h => h) ?_; simp only [Act.put, List.setIfInBounds_toArray, List.set_cons_zero, List.set_cons_succ])
                | (refine Fx.val_ ?_ (by rfl) ?_ (fun f w h => h) ?_
                   rotate_left
                   · intro f w' hD hk
                     have hb := hD
                     have x7 := (hb.cell (p := ⟨ab, ao + h, none⟩) hab8).trans a0
                     have x8 := (hb.cell (p := ⟨ab, ao + bh, none⟩) hab8).trans a1
                     have x9 := (hb.cell (p := ⟨fb, fo + bh, none⟩) hfb8).trans f3
                     clear hk hD hb
                     go_simp
                     try rfl
                   simp only [Act.put, List.setIfInBounds_toArray, List.set_cons_zero, List.set_cons_succ]))
              refine Fx.call_ (.int .i64 (v1)) ?_ ?_ (by rfl) ?_ ?_ ?_
              rotate_left 2
              · intro w'
                go_simp
                refine ⟨?_, ?_⟩ <;> rfl
              · intro f w' hD hk
                exact (costpt_is f1 to v1 HV1.out _ HP1.out HP3.out).mono fun e w'' ⟨he, hw⟩ => ⟨he, hw ▸ hD⟩
              simp only [Act.put, List.setIfInBounds_toArray, List.set_cons_zero, List.set_cons_succ]
              repeat (first
                | (refine Fx.skip_ (by rfl) (fun f w h => h) ?_; simp only [Act.put, List.setIfInBounds_toArray, List.set_cons_zero, List.set_cons_succ])
                | (refine Fx.val_ ?_ (by rfl) ?_ (fun f w h => h) ?_
                   rotate_left
                   · intro f w' hD hk
                     have hb := hD
                     have x7 := (hb.cell (p := ⟨ab, ao + h, none⟩) hab8).trans a0
                     have x8 := (hb.cell (p := ⟨ab, ao + bh, none⟩) hab8).trans a1
                     have x9 := (hb.cell (p := ⟨fb, fo + bh, none⟩) hfb8).trans f3
                     clear hk hD hb
                     go_simp
                     try rfl
                   simp only [Act.put, List.setIfInBounds_toArray, List.set_cons_zero, List.set_cons_succ]))
              refine Fx.call_ (.int .i64 (v2)) ?_ ?_ (by rfl) ?_ ?_ ?_
              rotate_left 2
              · intro w'
                go_simp
                refine ⟨?_, ?_⟩ <;> rfl
              · intro f w' hD hk
                exact (costpt_is f2 to v2 HV2.out _ HP2.out HP3.out).mono fun e w'' ⟨he, hw⟩ => ⟨he, hw ▸ hD⟩
              simp only [Act.put, List.setIfInBounds_toArray, List.set_cons_zero, List.set_cons_succ]
              repeat (first
                | (refine Fx.skip_ (by rfl) (fun f w h => h) ?_; simp only [Act.put, List.setIfInBounds_toArray, List.set_cons_zero, List.set_cons_succ])
                | (refine Fx.val_ ?_ (by rfl) ?_ (fun f w h => h) ?_
                   rotate_left
                   · intro f w' hD hk
                     have hb := hD
                     have x7 := (hb.cell (p := ⟨ab, ao + h, none⟩) hab8).trans a0
                     have x8 := (hb.cell (p := ⟨ab, ao + bh, none⟩) hab8).trans a1
                     have x9 := (hb.cell (p := ⟨fb, fo + bh, none⟩) hfb8).trans f3
                     clear hk hD hb
                     go_simp
                     try rfl
                   simp only [Act.put, List.setIfInBounds_toArray, List.set_cons_zero, List.set_cons_succ]))
              refine Fx.nil_ ?_
              intro f w9 hall hb
              try clear hall
              have HB89 := Lib.hid hb
              have HB9 := Lib.hid (show Below w.heap.size w w9 from step_below hb (by repeat' (first | exact Below.refl _ _ | exact HB8.out | refine below_drewN ?_ _ | refine Below.drew ?_ | refine Below.alloc ?_ (by first | omega | (simp; done) | (simp; omega) | (simp [World.setCell]; omega)) _ | refine Below.setCell ?_ (by first | omega | (simp; done) | (simp; omega)) _ | assumption)))
              have hz9 := hb.size
              try simp only [World.size_alloc, World.drewN, World.drew] at hz9
              clear hb
              have HTT := Lib.hid ht
              cases tt
              · go_wp2
                go_roundw
                case rel => exact ⟨h + 1, by omega, by rw [HSU.out, if_neg (of_decide_eq_false HTT.out)], by go_num, H78.out.trans (HB89.out.mono H78.out.size)⟩
                case measure => simp [intOf]; omega
              · go_wp2
                go_roundw
                case rel => exact ⟨h + 1, by omega, by rw [HSU.out, if_pos (of_decide_eq_true HTT.out)], by go_num, H78.out.trans (HB89.out.mono H78.out.size)⟩
                case measure => simp [intOf]; omega
            · obtain rfl : q = h := by omega
              have hlow : lowC B F to = bh := by unfold lowC; rw [hr1.ilen]; exact HBH.out
              obtain ⟨_, _, b2, hA, hab8, hb2, a1⟩ := hr0.int_ hbq
              cases hA
              obtain ⟨_, _, f2, hA, hfb8, hf2, f3⟩ := hr1.int_ hbq
              cases hA
              have i2 := HBI.out b2 (List.mem_of_getElem? hb2)
              have j2 := HFI.out f2 (List.mem_of_getElem? hf2)
              have k2 := cost_bound2 j2 htr
              obtain ⟨v2, hv2⟩ : ∃ v, costF f2 to = v := ⟨_, rfl⟩
              have y2 : valC B F to (lowC B F to) = b2 + v2 := by rw [hlow]; unfold valC; rw [hb2, hf2, ← hv2]; rfl
              rw [hv2] at k2
              have w2_ := IntWalk.i64_in (b2 + v2) ⟨by omega, by omega⟩
              have hbqi : (bh : Int) < (q : Int) := by omega
              have hrt := rowC_take (B := B) (F := F) HTO.out
              have hbt := byC_take (B := B) (F := F) HTO.out
              rw [y2] at hrt
              rw [hlow] at hbt
              have hl1 : ((rowC B F P).take j).length = j := by rw [List.length_take, rowC_len, HO2.out.ilen]; omega
              have hl2 : ((byC B F P).take j).length = j := by rw [List.length_take, byC_len, HO2.out.ilen]; omega
              have oc8 := own_below HOC.out H78.out (Nat.le_refl _)
              have ob8 := own_below HOB.out H78.out (Nat.le_refl _)
              have nc1 : u10.ownBlock ≠ some ab := fun e => by have := (own_lt oc8 e).1; have := hab0; omega
              have nc2 : u10.ownBlock ≠ some fb := fun e => by have := (own_lt oc8 e).1; have := hfb0; omega
              have nb1 : u11.ownBlock ≠ some ab := fun e => by have := (own_lt ob8 e).1; have := hab0; omega
              have nb2 : u11.ownBlock ≠ some fb := fun e => by have := (own_lt ob8 e).1; have := hfb0; omega
              have HV2 := Lib.hid hv2
              have HP2 := Lib.hid (show PosR f2 by unfold PosR; omega)
              have HP3 := Lib.hid (show PosR to by unfold PosR; omega)
              have HRT := Lib.hid hrt
              have HBT := Lib.hid hbt
              have HOC8 := Lib.hid oc8
              have HOB8 := Lib.hid ob8
              have hs68 : w6.heap.size ≤ w8.heap.size := by omega
              have HB68 := Lib.hid (H67.out.trans (H78.out.mono H67.out.size))
              clear hv2 y2 hrt hbt oc8 ob8 hr0 hr1 hlow hb2 hf2 k2 i2 j2
              go_wp2_with fail
              obtain ⟨hownA, hownB, hsepAB⟩ := (⟨HOC8.out, HOB8.out, HSEP.out⟩ : _ ∧ _ ∧ _)
              apply share5 (Fact := fun (x1 y x2 z : Pick) (wz : World) => ∃ g, g 13 = some y ∧ g 17 = some z ∧ Ap (w6.heap.size) 3 3 (u10) (u11) (j) (j) (((rowC B F P).take j).map (.int .i64)) (((byC B F P).take j).map (.int .i64)) (.int .i64 (b2 + v2)) (.int .i64 (bh : Int)) 12 13 16 17 _ g wz)
              · skip
                intro key
                refine Fx.regionM (fun W g f w' => Ap (w6.heap.size) 3 3 (u10) (u11) (j) (j) (((rowC B F P).take j).map (.int .i64)) (((byC B F P).take j).map (.int .i64)) (.int .i64 (b2 + v2)) (.int .i64 (bh : Int)) 12 13 16 17 W g w') (fun i (x : Pick) => if i = 12 ∨ i = 16 then .slice x.1 1 1 else if i = 13 then .slice x.1 (j + 1) x.2 else .slice x.1 (j + 1) x.2) (by kernel_rfl) ?_ ?_
                · intro f hf0
                  exact Ap.start hownA hownB hsepAB 1
                first
                | (refine Fx.WM.skip 0 (by rfl) (by kernel_rfl) (by kernel_rfl) (by kernel_rfl) (by rfl) (fun g f w h => h) ?_; simp only [Act.put, List.setIfInBounds_toArray, List.set_cons_zero, List.set_cons_succ])
                | (refine Fx.WM.val_ 0 ?_ (by rfl) (by kernel_rfl) (by kernel_rfl) (by kernel_rfl) (by rfl) ?_ (fun g f w h => h) ?_
                   rotate_left
                   · intro g f w' hx hD hk
                     obtain hap := id hD
                     have y0 : w'.cell? ⟨ab, ao + bh, none⟩ = some (.int .i64 b2) := (World.cell?_of_block (hap.keep _ hab8 nc1 nb1)).trans a1
                     have y1 : w'.cell? ⟨fb, fo + bh, none⟩ = some (.int .i64 f2) := (World.cell?_of_block (hap.keep _ hfb8 nc2 nb2)).trans f3
                     clear hx hk hD hap
                     go_simp
                     try rfl
                   simp only [Act.put, List.setIfInBounds_toArray, List.set_cons_zero, List.set_cons_succ])
                first
                | (refine Fx.WM.skip 1 (by rfl) (by kernel_rfl) (by kernel_rfl) (by kernel_rfl) (by rfl) (fun g f w h => h) ?_; simp only [Act.put, List.setIfInBounds_toArray, List.set_cons_zero, List.set_cons_succ])
                | (refine Fx.WM.val_ 1 ?_ (by rfl) (by kernel_rfl) (by kernel_rfl) (by kernel_rfl) (by rfl) ?_ (fun g f w h => h) ?_
                   rotate_left
                   · intro g f w' hx hD hk
                     obtain hap := id hD
                     have y0 : w'.cell? ⟨ab, ao + bh, none⟩ = some (.int .i64 b2) := (World.cell?_of_block (hap.keep _ hab8 nc1 nb1)).trans a1
                     have y1 : w'.cell? ⟨fb, fo + bh, none⟩ = some (.int .i64 f2) := (World.cell?_of_block (hap.keep _ hfb8 nc2 nb2)).trans f3
                     clear hx hk hD hap
                     go_simp
                     try rfl
                   simp only [Act.put, List.setIfInBounds_toArray, List.set_cons_zero, List.set_cons_succ])
                first
                | (refine Fx.WM.skip 2 (by rfl) (by kernel_rfl) (by kernel_rfl) (by kernel_rfl) (by rfl) (fun g f w h => h) ?_; simp only [Act.put, List.setIfInBounds_toArray, List.set_cons_zero, List.set_cons_succ])
                | (refine Fx.WM.val_ 2 ?_ (by rfl) (by kernel_rfl) (by kernel_rfl) (by kernel_rfl) (by rfl) ?_ (fun g f w h => h) ?_
                   rotate_left
                   · intro g f w' hx hD hk
                     obtain hap := id hD
                     have y0 : w'.cell? ⟨ab, ao + bh, none⟩ = some (.int .i64 b2) := (World.cell?_of_block (hap.keep _ hab8 nc1 nb1)).trans a1
                     have y1 : w'.cell? ⟨fb, fo + bh, none⟩ = some (.int .i64 f2) := (World.cell?_of_block (hap.keep _ hfb8 nc2 nb2)).trans f3
                     clear hx hk hD hap
                     go_simp
                     try rfl
                   simp only [Act.put, List.setIfInBounds_toArray, List.set_cons_zero, List.set_cons_succ])
                first
                | (refine Fx.WM.skip 3 (by rfl) (by kernel_rfl) (by kernel_rfl) (by kernel_rfl) (by rfl) (fun g f w h => h) ?_; simp only [Act.put, List.setIfInBounds_toArray, List.set_cons_zero, List.set_cons_succ])
                | (refine Fx.WM.val_ 3 ?_ (by rfl) (by kernel_rfl) (by kernel_rfl) (by kernel_rfl) (by rfl) ?_ (fun g f w h => h) ?_
                   rotate_left
                   · intro g f w' hx hD hk
                     obtain hap := id hD
                     have y0 : w'.cell? ⟨ab, ao + bh, none⟩ = some (.int .i64 b2) := (World.cell?_of_block (hap.keep _ hab8 nc1 nb1)).trans a1
                     have y1 : w'.cell? ⟨fb, fo + bh, none⟩ = some (.int .i64 f2) := (World.cell?_of_block (hap.keep _ hfb8 nc2 nb2)).trans f3
                     clear hx hk hD hap
                     go_simp
                     try rfl
                   simp only [Act.put, List.setIfInBounds_toArray, List.set_cons_zero, List.set_cons_succ])
                first
                | (refine Fx.WM.skip 4 (by rfl) (by kernel_rfl) (by kernel_rfl) (by kernel_rfl) (by rfl) (fun g f w h => h) ?_; simp only [Act.put, List.setIfInBounds_toArray, List.set_cons_zero, List.set_cons_succ])
                | (refine Fx.WM.val_ 4 ?_ (by rfl) (by kernel_rfl) (by kernel_rfl) (by kernel_rfl) (by rfl) ?_ (fun g f w h => h) ?_
                   rotate_left
                   · intro g f w' hx hD hk
                     obtain hap := id hD
                     have y0 : w'.cell? ⟨ab, ao + bh, none⟩ = some (.int .i64 b2) := (World.cell?_of_block (hap.keep _ hab8 nc1 nb1)).trans a1
                     have y1 : w'.cell? ⟨fb, fo + bh, none⟩ = some (.int .i64 f2) := (World.cell?_of_block (hap.keep _ hfb8 nc2 nb2)).trans f3
                     clear hx hk hD hap
                     go_simp
                     try rfl
                   simp only [Act.put, List.setIfInBounds_toArray, List.set_cons_zero, List.set_cons_succ])
                first
                | (refine Fx.WM.skip 5 (by rfl) (by kernel_rfl) (by kernel_rfl) (by kernel_rfl) (by rfl) (fun g f w h => h) ?_; simp only [Act.put, List.setIfInBounds_toArray, List.set_cons_zero, List.set_cons_succ])
                | (refine Fx.WM.val_ 5 ?_ (by rfl) (by kernel_rfl) (by kernel_rfl) (by kernel_rfl) (by rfl) ?_ (fun g f w h => h) ?_
                   rotate_left
                   · intro g f w' hx hD hk
                     obtain hap := id hD
                     have y0 : w'.cell? ⟨ab, ao + bh, none⟩ = some (.int .i64 b2) := (World.cell?_of_block (hap.keep _ hab8 nc1 nb1)).trans a1
                     have y1 : w'.cell? ⟨fb, fo + bh, none⟩ = some (.int .i64 f2) := (World.cell?_of_block (hap.keep _ hfb8 nc2 nb2)).trans f3
                     clear hx hk hD hap
                     go_simp
                     try rfl
                   simp only [Act.put, List.setIfInBounds_toArray, List.set_cons_zero, List.set_cons_succ])
                first
                | (refine Fx.WM.skip 6 (by rfl) (by kernel_rfl) (by kernel_rfl) (by kernel_rfl) (by rfl) (fun g f w h => h) ?_; simp only [Act.put, List.setIfInBounds_toArray, List.set_cons_zero, List.set_cons_succ])
                | (refine Fx.WM.val_ 6 ?_ (by rfl) (by kernel_rfl) (by kernel_rfl) (by kernel_rfl) (by rfl) ?_ (fun g f w h => h) ?_
                   rotate_left
                   · intro g f w' hx hD hk
                     obtain hap := id hD
                     have y0 : w'.cell? ⟨ab, ao + bh, none⟩ = some (.int .i64 b2) := (World.cell?_of_block (hap.keep _ hab8 nc1 nb1)).trans a1
                     have y1 : w'.cell? ⟨fb, fo + bh, none⟩ = some (.int .i64 f2) := (World.cell?_of_block (hap.keep _ hfb8 nc2 nb2)).trans f3
                     clear hx hk hD hap
                     go_simp
                     try rfl
                   simp only [Act.put, List.setIfInBounds_toArray, List.set_cons_zero, List.set_cons_succ])
                first
                | (refine Fx.WM.skip 7 (by rfl) (by kernel_rfl) (by kernel_rfl) (by kernel_rfl) (by rfl) (fun g f w h => h) ?_; simp only [Act.put, List.setIfInBounds_toArray, List.set_cons_zero, List.set_cons_succ])
                | (refine Fx.WM.val_ 7 ?_ (by rfl) (by kernel_rfl) (by kernel_rfl) (by kernel_rfl) (by rfl) ?_ (fun g f w h => h) ?_
                   rotate_left
                   · intro g f w' hx hD hk
                     obtain hap := id hD
                     have y0 : w'.cell? ⟨ab, ao + bh, none⟩ = some (.int .i64 b2) := (World.cell?_of_block (hap.keep _ hab8 nc1 nb1)).trans a1
                     have y1 : w'.cell? ⟨fb, fo + bh, none⟩ = some (.int .i64 f2) := (World.cell?_of_block (hap.keep _ hfb8 nc2 nb2)).trans f3
                     clear hx hk hD hap
                     go_simp
                     try rfl
                   simp only [Act.put, List.setIfInBounds_toArray, List.set_cons_zero, List.set_cons_succ])
                first
                | (refine Fx.WM.skip 8 (by rfl) (by kernel_rfl) (by kernel_rfl) (by kernel_rfl) (by rfl) (fun g f w h => h) ?_; simp only [Act.put, List.setIfInBounds_toArray, List.set_cons_zero, List.set_cons_succ])
                | (refine Fx.WM.val_ 8 ?_ (by rfl) (by kernel_rfl) (by kernel_rfl) (by kernel_rfl) (by rfl) ?_ (fun g f w h => h) ?_
                   rotate_left
                   · intro g f w' hx hD hk
                     obtain hap := id hD
                     have y0 : w'.cell? ⟨ab, ao + bh, none⟩ = some (.int .i64 b2) := (World.cell?_of_block (hap.keep _ hab8 nc1 nb1)).trans a1
                     have y1 : w'.cell? ⟨fb, fo + bh, none⟩ = some (.int .i64 f2) := (World.cell?_of_block (hap.keep _ hfb8 nc2 nb2)).trans f3
                     clear hx hk hD hap
                     go_simp
                     try rfl
                   simp only [Act.put, List.setIfInBounds_toArray, List.set_cons_zero, List.set_cons_succ])
                first
                | (refine Fx.WM.skip 9 (by rfl) (by kernel_rfl) (by kernel_rfl) (by kernel_rfl) (by rfl) (fun g f w h => h) ?_; simp only [Act.put, List.setIfInBounds_toArray, List.set_cons_zero, List.set_cons_succ])
                | (refine Fx.WM.val_ 9 ?_ (by rfl) (by kernel_rfl) (by kernel_rfl) (by kernel_rfl) (by rfl) ?_ (fun g f w h => h) ?_
                   rotate_left
                   · intro g f w' hx hD hk
                     obtain hap := id hD
                     have y0 : w'.cell? ⟨ab, ao + bh, none⟩ = some (.int .i64 b2) := (World.cell?_of_block (hap.keep _ hab8 nc1 nb1)).trans a1
                     have y1 : w'.cell? ⟨fb, fo + bh, none⟩ = some (.int .i64 f2) := (World.cell?_of_block (hap.keep _ hfb8 nc2 nb2)).trans f3
                     clear hx hk hD hap
                     go_simp
                     try rfl
                   simp only [Act.put, List.setIfInBounds_toArray, List.set_cons_zero, List.set_cons_succ])
                refine Fx.WM.call 10 (.int .i64 (v2)) ?_ ?_ (by rfl) (by kernel_rfl) (by kernel_rfl) (by kernel_rfl) (by rfl) ?_ ?_ ?_
                rotate_left 2
                · intro w'
                  go_simp
                  refine ⟨?_, ?_⟩ <;> rfl
                · intro g f w' hx hD hk
                  exact (costpt_is f2 to v2 HV2.out _ HP2.out HP3.out).mono fun e w'' ⟨he, hw⟩ => ⟨he, by subst hw; exact hD⟩
                simp only [Act.put, List.setIfInBounds_toArray, List.set_cons_zero, List.set_cons_succ]
                first
                | (refine Fx.WM.skip 11 (by rfl) (by kernel_rfl) (by kernel_rfl) (by kernel_rfl) (by rfl) (fun g f w h => h) ?_; simp only [Act.put, List.setIfInBounds_toArray, List.set_cons_zero, List.set_cons_succ])
                | (refine Fx.WM.val_ 11 ?_ (by rfl) (by kernel_rfl) (by kernel_rfl) (by kernel_rfl) (by rfl) ?_ (fun g f w h => h) ?_
                   rotate_left
                   · intro g f w' hx hD hk
                     obtain hap := id hD
                     have y0 : w'.cell? ⟨ab, ao + bh, none⟩ = some (.int .i64 b2) := (World.cell?_of_block (hap.keep _ hab8 nc1 nb1)).trans a1
                     have y1 : w'.cell? ⟨fb, fo + bh, none⟩ = some (.int .i64 f2) := (World.cell?_of_block (hap.keep _ hfb8 nc2 nb2)).trans f3
                     clear hx hk hD hap
                     go_simp
                     try rfl
                   simp only [Act.put, List.setIfInBounds_toArray, List.set_cons_zero, List.set_cons_succ])
                first
                | (refine Fx.WM.skip 14 (by rfl) (by kernel_rfl) (by kernel_rfl) (by kernel_rfl) (by rfl) (fun g f w h => h) ?_; simp only [Act.put, List.setIfInBounds_toArray, List.set_cons_zero, List.set_cons_succ])
                | (refine Fx.WM.val_ 14 ?_ (by rfl) (by kernel_rfl) (by kernel_rfl) (by kernel_rfl) (by rfl) ?_ (fun g f w h => h) ?_
                   rotate_left
                   · intro g f w' hx hD hk
                     obtain hap := id hD
                     have y0 : w'.cell? ⟨ab, ao + bh, none⟩ = some (.int .i64 b2) := (World.cell?_of_block (hap.keep _ hab8 nc1 nb1)).trans a1
                     have y1 : w'.cell? ⟨fb, fo + bh, none⟩ = some (.int .i64 f2) := (World.cell?_of_block (hap.keep _ hfb8 nc2 nb2)).trans f3
                     clear hx hk hD hap
                     go_simp
                     try rfl
                   simp only [Act.put, List.setIfInBounds_toArray, List.set_cons_zero, List.set_cons_succ])
                first
                | (refine Fx.WM.skip 15 (by rfl) (by kernel_rfl) (by kernel_rfl) (by kernel_rfl) (by rfl) (fun g f w h => h) ?_; simp only [Act.put, List.setIfInBounds_toArray, List.set_cons_zero, List.set_cons_succ])
                | (refine Fx.WM.val_ 15 ?_ (by rfl) (by kernel_rfl) (by kernel_rfl) (by kernel_rfl) (by rfl) ?_ (fun g f w h => h) ?_
                   rotate_left
                   · intro g f w' hx hD hk
                     obtain hap := id hD
                     have y0 : w'.cell? ⟨ab, ao + bh, none⟩ = some (.int .i64 b2) := (World.cell?_of_block (hap.keep _ hab8 nc1 nb1)).trans a1
                     have y1 : w'.cell? ⟨fb, fo + bh, none⟩ = some (.int .i64 f2) := (World.cell?_of_block (hap.keep _ hfb8 nc2 nb2)).trans f3
                     clear hx hk hD hap
                     go_simp
                     try rfl
                   simp only [Act.put, List.setIfInBounds_toArray, List.set_cons_zero, List.set_cons_succ])
                refine Fx.WM.choose2 12 16 (by rfl) (by rfl) (by kernel_rfl) (by rfl) (by rfl) ?_ ?_ ?_ ?_
                · skip
                  refine Fx.Chooses.make (by rfl) ?_
                  intro f w' hD hk
                  refine ⟨(some ⟨w'.heap.size, 0, none⟩, 0), w'.alloc (.cells #[.int .i64 (b2 + v2)] 3), ?_, ?_⟩
                  · clear hk hD
                    go_simp
                    try rfl
                  · exact hD.lit (by decide) (by decide) (by decide)
                · skip
                  refine Fx.Chooses.make (by rfl) ?_
                  intro f w' hD hk
                  refine ⟨(some ⟨w'.heap.size, 0, none⟩, 0), w'.alloc (.cells #[.int .i64 (bh : Int)] 3), ?_, ?_⟩
                  · clear hk hD
                    go_simp
                    try rfl
                  · exact (hD.symm.lit (by decide) (by decide) (by decide)).symm
                · skip
                  intro x1
                  simp only [Act.put, List.setIfInBounds_toArray, List.set_cons_zero, List.set_cons_succ]
                  refine Fx.WM.choose2 13 16 (by rfl) (by rfl) (by kernel_rfl) (by rfl) (by rfl) ?_ ?_ ?_ ?_
                  · skip
                    refine Fx.Chooses.make (by rfl) ?_
                    intro f w' hD hk
                    obtain ⟨y', w2', hrun, hD2⟩ := hD.app (P := Try.prog) (c := 1) Try.underlying31 info_int rfl rfl (by first | omega | assumption) (by unfold maxLen; omega) (by omega) (x := x1) (by rfl) (by rfl) (by decide) (by decide) (by decide)
                    exact ⟨y', w2', exec_append _ _ _ rfl hrun, hD2⟩
                  · skip
                    refine Fx.Chooses.make (by rfl) ?_
                    intro f w' hD hk
                    refine ⟨(some ⟨w'.heap.size, 0, none⟩, 0), w'.alloc (.cells #[.int .i64 (bh : Int)] 3), ?_, ?_⟩
                    · clear hk hD
                      go_simp
                      try rfl
                    · exact (hD.symm.lit (by decide) (by decide) (by decide)).symm
                  · skip
                    intro y
                    simp only [Act.put, List.setIfInBounds_toArray, List.set_cons_zero, List.set_cons_succ]
                    refine Fx.WM.choose 16 (by rfl) (by kernel_rfl) (by rfl) ?_ ?_
                    · skip
                      refine Fx.Chooses.make (by rfl) ?_
                      intro f w' hD hk
                      refine ⟨(some ⟨w'.heap.size, 0, none⟩, 0), w'.alloc (.cells #[.int .i64 (bh : Int)] 3), ?_, ?_⟩
                      · clear hk hD
                        go_simp
                        try rfl
                      · exact (hD.symm.lit (by decide) (by decide) (by decide)).symm
                    intro x2
                    simp only [Act.put, List.setIfInBounds_toArray, List.set_cons_zero, List.set_cons_succ]
                    refine Fx.WM.choose 17 (by rfl) (by kernel_rfl) (by rfl) ?_ ?_
                    · skip
                      refine Fx.Chooses.make (by rfl) ?_
                      intro f w' hD hk
                      obtain ⟨y', w2', hrun, hD2⟩ := hD.symm.app (P := Try.prog) (c := 1) Try.underlying31 info_int rfl rfl (by first | omega | assumption) (by unfold maxLen; omega) (by omega) (x := x2) (by rfl) (by rfl) (by decide) (by decide) (by decide)
                      exact ⟨y', w2', exec_append _ _ _ rfl hrun, hD2.symm⟩
                    intro z
                    simp only [Act.put, List.setIfInBounds_toArray, List.set_cons_zero, List.set_cons_succ]
                    first
                    | (refine Fx.WM.skip 18 (by rfl) (by kernel_rfl) (by kernel_rfl) (by kernel_rfl) (by rfl) (fun g f w h => h) ?_; simp only [Act.put, List.setIfInBounds_toArray, List.set_cons_zero, List.set_cons_succ])
                    | (refine Fx.WM.val_ 18 ?_ (by rfl) (by kernel_rfl) (by kernel_rfl) (by kernel_rfl) (by rfl) ?_ (fun g f w h => h) ?_
                       rotate_left
                       · intro g f w' hx hD hk
                         obtain hap := id hD
                         have y0 : w'.cell? ⟨ab, ao + bh, none⟩ = some (.int .i64 b2) := (World.cell?_of_block (hap.keep _ hab8 nc1 nb1)).trans a1
                         have y1 : w'.cell? ⟨fb, fo + bh, none⟩ = some (.int .i64 f2) := (World.cell?_of_block (hap.keep _ hfb8 nc2 nb2)).trans f3
                         clear hx hk hD hap
                         go_simp
                         try rfl
                       simp only [Act.put, List.setIfInBounds_toArray, List.set_cons_zero, List.set_cons_succ])
                    first
                    | (refine Fx.WM.skip 19 (by rfl) (by kernel_rfl) (by kernel_rfl) (by kernel_rfl) (by rfl) (fun g f w h => h) ?_; simp only [Act.put, List.setIfInBounds_toArray, List.set_cons_zero, List.set_cons_succ])
                    | (refine Fx.WM.val_ 19 ?_ (by rfl) (by kernel_rfl) (by kernel_rfl) (by kernel_rfl) (by rfl) ?_ (fun g f w h => h) ?_
                       rotate_left
                       · intro g f w' hx hD hk
                         obtain hap := id hD
                         have y0 : w'.cell? ⟨ab, ao + bh, none⟩ = some (.int .i64 b2) := (World.cell?_of_block (hap.keep _ hab8 nc1 nb1)).trans a1
                         have y1 : w'.cell? ⟨fb, fo + bh, none⟩ = some (.int .i64 f2) := (World.cell?_of_block (hap.keep _ hfb8 nc2 nb2)).trans f3
                         clear hx hk hD hap
                         go_simp
                         try rfl
                       simp only [Act.put, List.setIfInBounds_toArray, List.set_cons_zero, List.set_cons_succ])
                    refine Fx.WM.nil (by kernel_rfl) ?_
                    intro wz hD
                    exact key x1 y x2 z wz ⟨_, rfl, rfl, hD⟩
                  · skip
                    intro x2
                    simp only [Act.put, List.setIfInBounds_toArray, List.set_cons_zero, List.set_cons_succ]
                    refine Fx.WM.choose 13 (by rfl) (by kernel_rfl) (by rfl) ?_ ?_
                    · skip
                      refine Fx.Chooses.make (by rfl) ?_
                      intro f w' hD hk
                      obtain ⟨y', w2', hrun, hD2⟩ := hD.app (P := Try.prog) (c := 1) Try.underlying31 info_int rfl rfl (by first | omega | assumption) (by unfold maxLen; omega) (by omega) (x := x1) (by rfl) (by rfl) (by decide) (by decide) (by decide)
                      exact ⟨y', w2', exec_append _ _ _ rfl hrun, hD2⟩
                    intro y
                    simp only [Act.put, List.setIfInBounds_toArray, List.set_cons_zero, List.set_cons_succ]
                    refine Fx.WM.choose 17 (by rfl) (by kernel_rfl) (by rfl) ?_ ?_
                    · skip
                      refine Fx.Chooses.make (by rfl) ?_
                      intro f w' hD hk
                      obtain ⟨y', w2', hrun, hD2⟩ := hD.symm.app (P := Try.prog) (c := 1) Try.underlying31 info_int rfl rfl (by first | omega | assumption) (by unfold maxLen; omega) (by omega) (x := x2) (by rfl) (by rfl) (by decide) (by decide) (by decide)
                      exact ⟨y', w2', exec_append _ _ _ rfl hrun, hD2.symm⟩
                    intro z
                    simp only [Act.put, List.setIfInBounds_toArray, List.set_cons_zero, List.set_cons_succ]
                    first
                    | (refine Fx.WM.skip 18 (by rfl) (by kernel_rfl) (by kernel_rfl) (by kernel_rfl) (by rfl) (fun g f w h => h) ?_; simp only [Act.put, List.setIfInBounds_toArray, List.set_cons_zero, List.set_cons_succ])
                    | (refine Fx.WM.val_ 18 ?_ (by rfl) (by kernel_rfl) (by kernel_rfl) (by kernel_rfl) (by rfl) ?_ (fun g f w h => h) ?_
                       rotate_left
                       · intro g f w' hx hD hk
                         obtain hap := id hD
                         have y0 : w'.cell? ⟨ab, ao + bh, none⟩ = some (.int .i64 b2) := (World.cell?_of_block (hap.keep _ hab8 nc1 nb1)).trans a1
                         have y1 : w'.cell? ⟨fb, fo + bh, none⟩ = some (.int .i64 f2) := (World.cell?_of_block (hap.keep _ hfb8 nc2 nb2)).trans f3
                         clear hx hk hD hap
                         go_simp
                         try rfl
                       simp only [Act.put, List.setIfInBounds_toArray, List.set_cons_zero, List.set_cons_succ])
                    first
                    | (refine Fx.WM.skip 19 (by rfl) (by kernel_rfl) (by kernel_rfl) (by kernel_rfl) (by rfl) (fun g f w h => h) ?_; simp only [Act.put, List.setIfInBounds_toArray, List.set_cons_zero, List.set_cons_succ])
                    | (refine Fx.WM.val_ 19 ?_ (by rfl) (by kernel_rfl) (by kernel_rfl) (by kernel_rfl) (by rfl) ?_ (fun g f w h => h) ?_
                       rotate_left
                       · intro g f w' hx hD hk
                         obtain hap := id hD
                         have y0 : w'.cell? ⟨ab, ao + bh, none⟩ = some (.int .i64 b2) := (World.cell?_of_block (hap.keep _ hab8 nc1 nb1)).trans a1
                         have y1 : w'.cell? ⟨fb, fo + bh, none⟩ = some (.int .i64 f2) := (World.cell?_of_block (hap.keep _ hfb8 nc2 nb2)).trans f3
                         clear hx hk hD hap
                         go_simp
                         try rfl
                       simp only [Act.put, List.setIfInBounds_toArray, List.set_cons_zero, List.set_cons_succ])
                    refine Fx.WM.nil (by kernel_rfl) ?_
                    intro wz hD
                    exact key x1 y x2 z wz ⟨_, rfl, rfl, hD⟩
                · skip
                  intro x2
                  simp only [Act.put, List.setIfInBounds_toArray, List.set_cons_zero, List.set_cons_succ]
                  refine Fx.WM.choose 12 (by rfl) (by kernel_rfl) (by rfl) ?_ ?_
                  · skip
                    refine Fx.Chooses.make (by rfl) ?_
                    intro f w' hD hk
                    refine ⟨(some ⟨w'.heap.size, 0, none⟩, 0), w'.alloc (.cells #[.int .i64 (b2 + v2)] 3), ?_, ?_⟩
                    · clear hk hD
                      go_simp
                      try rfl
                    · exact hD.lit (by decide) (by decide) (by decide)
                  intro x1
                  simp only [Act.put, List.setIfInBounds_toArray, List.set_cons_zero, List.set_cons_succ]
                  refine Fx.WM.choose 13 (by rfl) (by kernel_rfl) (by rfl) ?_ ?_
                  · skip
                    refine Fx.Chooses.make (by rfl) ?_
                    intro f w' hD hk
                    obtain ⟨y', w2', hrun, hD2⟩ := hD.app (P := Try.prog) (c := 1) Try.underlying31 info_int rfl rfl (by first | omega | assumption) (by unfold maxLen; omega) (by omega) (x := x1) (by rfl) (by rfl) (by decide) (by decide) (by decide)
                    exact ⟨y', w2', exec_append _ _ _ rfl hrun, hD2⟩
                  intro y
                  simp only [Act.put, List.setIfInBounds_toArray, List.set_cons_zero, List.set_cons_succ]
                  refine Fx.WM.choose 17 (by rfl) (by kernel_rfl) (by rfl) ?_ ?_
                  · skip
                    refine Fx.Chooses.make (by rfl) ?_
                    intro f w' hD hk
                    obtain ⟨y', w2', hrun, hD2⟩ := hD.symm.app (P := Try.prog) (c := 1) Try.underlying31 info_int rfl rfl (by first | omega | assumption) (by unfold maxLen; omega) (by omega) (x := x2) (by rfl) (by rfl) (by decide) (by decide) (by decide)
                    exact ⟨y', w2', exec_append _ _ _ rfl hrun, hD2.symm⟩
                  intro z
                  simp only [Act.put, List.setIfInBounds_toArray, List.set_cons_zero, List.set_cons_succ]
                  first
                  | (refine Fx.WM.skip 18 (by rfl) (by kernel_rfl) (by kernel_rfl) (by kernel_rfl) (by rfl) (fun g f w h => h) ?_; simp only [Act.put, List.setIfInBounds_toArray, List.set_cons_zero, List.set_cons_succ])
                  | (refine Fx.WM.val_ 18 ?_ (by rfl) (by kernel_rfl) (by kernel_rfl) (by kernel_rfl) (by rfl) ?_ (fun g f w h => h) ?_
                     rotate_left
                     · intro g f w' hx hD hk
                       obtain hap := id hD
                       have y0 : w'.cell? ⟨ab, ao + bh, none⟩ = some (.int .i64 b2) := (World.cell?_of_block (hap.keep _ hab8 nc1 nb1)).trans a1
                       have y1 : w'.cell? ⟨fb, fo + bh, none⟩ = some (.int .i64 f2) := (World.cell?_of_block (hap.keep _ hfb8 nc2 nb2)).trans f3
                       clear hx hk hD hap
                       go_simp
                       try rfl
                     simp only [Act.put, List.setIfInBounds_toArray, List.set_cons_zero, List.set_cons_succ])
                  first
                  | (refine Fx.WM.skip 19 (by rfl) (by kernel_rfl) (by kernel_rfl) (by kernel_rfl) (by rfl) (fun g f w h => h) ?_; simp only [Act.put, List.setIfInBounds_toArray, List.set_cons_zero, List.set_cons_succ])
                  | (refine Fx.WM.val_ 19 ?_ (by rfl) (by kernel_rfl) (by kernel_rfl) (by kernel_rfl) (by rfl) ?_ (fun g f w h => h) ?_
                     rotate_left
                     · intro g f w' hx hD hk
                       obtain hap := id hD
                       have y0 : w'.cell? ⟨ab, ao + bh, none⟩ = some (.int .i64 b2) := (World.cell?_of_block (hap.keep _ hab8 nc1 nb1)).trans a1
                       have y1 : w'.cell? ⟨fb, fo + bh, none⟩ = some (.int .i64 f2) := (World.cell?_of_block (hap.keep _ hfb8 nc2 nb2)).trans f3
                       clear hx hk hD hap
                       go_simp
                       try rfl
                     simp only [Act.put, List.setIfInBounds_toArray, List.set_cons_zero, List.set_cons_succ])
                  refine Fx.WM.nil (by kernel_rfl) ?_
                  intro wz hD
                  exact key x1 y x2 z wz ⟨_, rfl, rfl, hD⟩
              rintro x1 y x2 z w9 ⟨g, hgy, hgz, hap⟩
              obtain ⟨hoA, hoB, hoS⟩ := hap.ends hgy hgz
              clear hownA hownB hsepAB
              have hb9 : Below w6.heap.size w6 w9 := HB68.out.trans (hap.below (fun b e => (own_lt HOC8.out e).1) (fun b e => (own_lt HOB8.out e).1) hs68)
              have HB9 := Lib.hid hb9
              have HOA := Lib.hid hoA
              have HOZ := Lib.hid hoB
              have HOS := Lib.hid hoS
              clear hb9 hoA hoB hoS hap w2_ a1 f3
              go_wp2
              go_roundw
              case rel => exact ⟨j + 1, by omega, by go_num, HB9.out, by rw [HRT.out, List.map_append]; exact HOA.out, by rw [HBT.out, List.map_append]; exact HOZ.out, HOS.out⟩
              case measure => simp [intOf]; omega
        · obtain rfl : sn = j := by omega
          have hPl : P.length = sn := HO2.out.ilen
          have hoc := HOC.out
          have hob := HOB.out
          rw [List.take_of_length_le (by rw [rowC_len]; omega)] at hoc
          rw [List.take_of_length_le (by rw [byC_len]; omega)] at hob
          obtain ⟨Ac, cc, rfl, -⟩ := own_slice hoc
          obtain ⟨Ay, cy, rfl, -⟩ := own_slice hob
          have hb57 : Below w5.heap.size w5 w7 := HN6.out.trans (H67.out.mono HN6.out.size)
          have hci7 := HC5.out.below hb57
          have hs37 : w3.heap.size ≤ w6.heap.size := by have := HN6.out.size; omega
          have hoc3 := own_mono hoc hs37
          have hob3 := own_mono hob hs37
          have ec : rowC B F P = dpB m day pos l (k + 1) := by show _ = rowC (dpB m day pos l k) (froL m day pos l k) (froL m day pos l (k + 1)); rw [HB_.out, HF_.out, HFS.out]
          have ey : byC B F P = cameL m day pos l k := by unfold cameL; rw [HB_.out, HF_.out, HFS.out]
          have HT7 := Lib.hid (HT5.out.call hb57)
          have HCI7 := Lib.hid hci7
          have HOC3 := Lib.hid hoc3
          have HOB3 := Lib.hid hob3
          have HEC := Lib.hid ec
          have HEY := Lib.hid ey
          have hcB3 : w.heap.size + 1 < w3.heap.size := by omega
          have hneB : w.heap.size + 1 ≠ w2.heap.size := by omega
          clear hoc hob hci7 hoc3 hob3 ec ey hb57
          go_wp2_with fail
          obtain ⟨hownA, hownB, hsepAB⟩ := (⟨HCI7.out.pots.row, HCI7.out.came.row, HCI7.out.sep⟩ : _ ∧ _ ∧ _)
          have hblk1 : Blk _ (w.heap.size + 1) 43 #[.slice none 0 0, .slice Xp k cp] := HCI7.out.cb
          have hblk2 : Blk _ (w2.heap.size) 41 #[.slice Xq k cq] := HCI7.out.tb
          have hnA1 := own_blk_ne hownA hblk1 (by decide)
          have hnA2 := own_blk_ne hownA hblk2 (by decide)
          have hnB1 := own_blk_ne hownB hblk1 (by decide)
          have hnB2 := own_blk_ne hownB hblk2 (by decide)
          apply share5 (Fact := fun (x1 y x2 z : Pick) (wz : World) => ∃ g w1_, g 4 = some y ∧ g 8 = some z ∧ Ap (w3.heap.size) 31 31 (.slice Xp k cp) (.slice Xq k cq) (k) (k) (tsP.map TRow.val) (tsC.map TRow.val) (.slice Ac sn cc) (.slice Ay sn cy) 3 4 7 8 _ g w1_ ∧ wz = (w1_.setCell ⟨w.heap.size + 1, 1, none⟩ (.slice y.1 (k + 1) y.2)).setCell ⟨w2.heap.size, 0, none⟩ (.slice z.1 (k + 1) z.2))
          · skip
            intro key
            refine Fx.regionM (fun W g f w' => ApS (fun g w1 => Ap (w3.heap.size) 31 31 (.slice Xp k cp) (.slice Xq k cq) (k) (k) (tsP.map TRow.val) (tsC.map TRow.val) (.slice Ac sn cc) (.slice Ay sn cy) 3 4 7 8 W g w1) 10 11 ⟨w.heap.size + 1, 1, none⟩ ⟨w2.heap.size, 0, none⟩ (fun g : Nat → Option Pick => rowV (g 4) (.slice Xp k cp) (k)) (fun g : Nat → Option Pick => rowV (g 8) (.slice Xq k cq) (k)) g f w') (fun i (x : Pick) => if i = 3 ∨ i = 7 then .slice x.1 1 1 else if i = 4 then .slice x.1 (k + 1) x.2 else .slice x.1 (k + 1) x.2) (by kernel_rfl) ?_ ?_
            · intro f hf0
              exact ApS.start (Ap.start hownA hownB hsepAB 1) (hf0 10) (hf0 11)
            first
            | (refine Fx.WM.skip 0 (by rfl) (by kernel_rfl) (by kernel_rfl) (by kernel_rfl) (by rfl) (fun g f w h => ApS.same h (by decide) (by decide)) ?_; simp only [Act.put, List.setIfInBounds_toArray, List.set_cons_zero, List.set_cons_succ])
            | (refine Fx.WM.val_ 0 ?_ (by rfl) (by kernel_rfl) (by kernel_rfl) (by kernel_rfl) (by rfl) ?_ (fun g f w h => ApS.same h (by decide) (by decide)) ?_
               rotate_left
               · intro g f w' hx hD hk
                 obtain hap := id hD
                 clear hx hk hD hap
                 go_simp
                 try rfl
               simp only [Act.put, List.setIfInBounds_toArray, List.set_cons_zero, List.set_cons_succ])
            first
            | (refine Fx.WM.skip 1 (by rfl) (by kernel_rfl) (by kernel_rfl) (by kernel_rfl) (by rfl) (fun g f w h => ApS.same h (by decide) (by decide)) ?_; simp only [Act.put, List.setIfInBounds_toArray, List.set_cons_zero, List.set_cons_succ])
            | (refine Fx.WM.val_ 1 ?_ (by rfl) (by kernel_rfl) (by kernel_rfl) (by kernel_rfl) (by rfl) ?_ (fun g f w h => ApS.same h (by decide) (by decide)) ?_
               rotate_left
               · intro g f w' hx hD hk
                 obtain hap := id hD
                 have e1_ : f 10 = false := (hk.2.1 10 (by kernel_rfl))
                 have e2_ : f 11 = false := hk.2.1 11 (by kernel_rfl)
                 have hA := ApS.early hap e1_ e2_
                 have q1 := (hA.blk hblk1 hnA1 hnB1).cell 1
                 clear hx hk hD hap hA e1_ e2_
                 go_simp
                 try rfl
               simp only [Act.put, List.setIfInBounds_toArray, List.set_cons_zero, List.set_cons_succ])
            first
            | (refine Fx.WM.skip 2 (by rfl) (by kernel_rfl) (by kernel_rfl) (by kernel_rfl) (by rfl) (fun g f w h => ApS.same h (by decide) (by decide)) ?_; simp only [Act.put, List.setIfInBounds_toArray, List.set_cons_zero, List.set_cons_succ])
            | (refine Fx.WM.val_ 2 ?_ (by rfl) (by kernel_rfl) (by kernel_rfl) (by kernel_rfl) (by rfl) ?_ (fun g f w h => ApS.same h (by decide) (by decide)) ?_
               rotate_left
               · intro g f w' hx hD hk
                 obtain hap := id hD
                 clear hx hk hD hap
                 go_simp
                 try rfl
               simp only [Act.put, List.setIfInBounds_toArray, List.set_cons_zero, List.set_cons_succ])
            first
            | (refine Fx.WM.skip 5 (by rfl) (by kernel_rfl) (by kernel_rfl) (by kernel_rfl) (by rfl) (fun g f w h => ApS.same h (by decide) (by decide)) ?_; simp only [Act.put, List.setIfInBounds_toArray, List.set_cons_zero, List.set_cons_succ])
            | (refine Fx.WM.val_ 5 ?_ (by rfl) (by kernel_rfl) (by kernel_rfl) (by kernel_rfl) (by rfl) ?_ (fun g f w h => ApS.same h (by decide) (by decide)) ?_
               rotate_left
               · intro g f w' hx hD hk
                 obtain hap := id hD
                 have e1_ : f 10 = false := (hk.un 10 8 (by kernel_rfl) (hk.2.1 8 (by kernel_rfl)))
                 have e2_ : f 11 = false := hk.2.1 11 (by kernel_rfl)
                 have hA := ApS.early hap e1_ e2_
                 have q1 := (hA.blk hblk2 hnA2 hnB2).cell 0
                 clear hx hk hD hap hA e1_ e2_
                 go_simp
                 try rfl
               simp only [Act.put, List.setIfInBounds_toArray, List.set_cons_zero, List.set_cons_succ])
            first
            | (refine Fx.WM.skip 6 (by rfl) (by kernel_rfl) (by kernel_rfl) (by kernel_rfl) (by rfl) (fun g f w h => ApS.same h (by decide) (by decide)) ?_; simp only [Act.put, List.setIfInBounds_toArray, List.set_cons_zero, List.set_cons_succ])
            | (refine Fx.WM.val_ 6 ?_ (by rfl) (by kernel_rfl) (by kernel_rfl) (by kernel_rfl) (by rfl) ?_ (fun g f w h => ApS.same h (by decide) (by decide)) ?_
               rotate_left
               · intro g f w' hx hD hk
                 obtain hap := id hD
                 clear hx hk hD hap
                 go_simp
                 try rfl
               simp only [Act.put, List.setIfInBounds_toArray, List.set_cons_zero, List.set_cons_succ])
            refine Fx.WM.choose2 3 7 (by rfl) (by rfl) (by kernel_rfl) (by rfl) (by rfl) ?_ ?_ ?_ ?_
            · skip
              refine Fx.Chooses.make (by rfl) ?_
              intro f w' hD hk
              have e1_ : f 10 = false := (hk.2.1 10 (by kernel_rfl))
              have e2_ : f 11 = false := hk.2.1 11 (by kernel_rfl)
              refine ⟨(some ⟨w'.heap.size, 0, none⟩, 0), w'.alloc (.cells #[.slice Ac sn cc] 31), ?_, ?_⟩
              · clear hk hD
                go_simp
                try rfl
              · exact ApS.lift ((ApS.early hD e1_ e2_).lit (by decide) (by decide) (by decide)) e1_ e2_ (by decide) (by decide)
            · skip
              refine Fx.Chooses.make (by rfl) ?_
              intro f w' hD hk
              have e1_ : f 10 = false := (hk.un 10 8 (by kernel_rfl) (hk.2.1 8 (by kernel_rfl)))
              have e2_ : f 11 = false := hk.2.1 11 (by kernel_rfl)
              refine ⟨(some ⟨w'.heap.size, 0, none⟩, 0), w'.alloc (.cells #[.slice Ay sn cy] 31), ?_, ?_⟩
              · clear hk hD
                go_simp
                try rfl
              · exact ApS.lift (((ApS.early hD e1_ e2_).symm.lit (by decide) (by decide) (by decide)).symm) e1_ e2_ (by decide) (by decide)
            · skip
              intro x1
              simp only [Act.put, List.setIfInBounds_toArray, List.set_cons_zero, List.set_cons_succ]
              refine Fx.WM.choose2 4 7 (by rfl) (by rfl) (by kernel_rfl) (by rfl) (by rfl) ?_ ?_ ?_ ?_
              · skip
                refine Fx.Chooses.make (by rfl) ?_
                intro f w' hD hk
                have e1_ : f 10 = false := (hk.2.1 10 (by kernel_rfl))
                have e2_ : f 11 = false := hk.2.1 11 (by kernel_rfl)
                obtain ⟨y', w2', hrun, hD2⟩ := (ApS.early hD e1_ e2_).app (P := Try.prog) (c := 1) Try.underlying41 info_ints rfl rfl (by first | omega | assumption) (by unfold maxLen; omega) (by omega) (x := x1) (by rfl) (by rfl) (by decide) (by decide) (by decide)
                exact ⟨y', w2', exec_append _ _ _ rfl hrun, ApS.lift (hD2) e1_ e2_ (by decide) (by decide)⟩
              · skip
                refine Fx.Chooses.make (by rfl) ?_
                intro f w' hD hk
                have e1_ : f 10 = false := (hk.un 10 8 (by kernel_rfl) (hk.2.1 8 (by kernel_rfl)))
                have e2_ : f 11 = false := hk.2.1 11 (by kernel_rfl)
                refine ⟨(some ⟨w'.heap.size, 0, none⟩, 0), w'.alloc (.cells #[.slice Ay sn cy] 31), ?_, ?_⟩
                · clear hk hD
                  go_simp
                  try rfl
                · exact ApS.lift (((ApS.early hD e1_ e2_).symm.lit (by decide) (by decide) (by decide)).symm) e1_ e2_ (by decide) (by decide)
              · skip
                intro y
                simp only [Act.put, List.setIfInBounds_toArray, List.set_cons_zero, List.set_cons_succ]
                first
                | (refine Fx.WM.skip 9 (by rfl) (by kernel_rfl) (by kernel_rfl) (by kernel_rfl) (by rfl) (fun g f w h => ApS.same h (by decide) (by decide)) ?_; simp only [Act.put, List.setIfInBounds_toArray, List.set_cons_zero, List.set_cons_succ])
                | (refine Fx.WM.val_ 9 ?_ (by rfl) (by kernel_rfl) (by kernel_rfl) (by kernel_rfl) (by rfl) ?_ (fun g f w h => ApS.same h (by decide) (by decide)) ?_
                   rotate_left
                   · intro g f w' hx hD hk
                     obtain hap := id hD
                     clear hx hk hD hap
                     go_simp
                     try rfl
                   simp only [Act.put, List.setIfInBounds_toArray, List.set_cons_zero, List.set_cons_succ])
                refine Fx.WM.choose 7 (by rfl) (by kernel_rfl) (by rfl) ?_ ?_
                · skip
                  refine Fx.Chooses.make (by rfl) ?_
                  intro f w' hD hk
                  have e1_ : f 10 = false := (hk.un 10 8 (by kernel_rfl) (hk.2.1 8 (by kernel_rfl)))
                  have e2_ : f 11 = false := hk.2.1 11 (by kernel_rfl)
                  refine ⟨(some ⟨w'.heap.size, 0, none⟩, 0), w'.alloc (.cells #[.slice Ay sn cy] 31), ?_, ?_⟩
                  · clear hk hD
                    go_simp
                    try rfl
                  · exact ApS.lift (((ApS.early hD e1_ e2_).symm.lit (by decide) (by decide) (by decide)).symm) e1_ e2_ (by decide) (by decide)
                intro x2
                simp only [Act.put, List.setIfInBounds_toArray, List.set_cons_zero, List.set_cons_succ]
                refine Fx.WM.choose 8 (by rfl) (by kernel_rfl) (by rfl) ?_ ?_
                · skip
                  refine Fx.Chooses.make (by rfl) ?_
                  intro f w' hD hk
                  have e1_ : f 10 = false := (hk.2.1 10 (by kernel_rfl))
                  have e2_ : f 11 = false := hk.2.1 11 (by kernel_rfl)
                  obtain ⟨y', w2', hrun, hD2⟩ := (ApS.early hD e1_ e2_).symm.app (P := Try.prog) (c := 1) Try.underlying41 info_ints rfl rfl (by first | omega | assumption) (by unfold maxLen; omega) (by omega) (x := x2) (by rfl) (by rfl) (by decide) (by decide) (by decide)
                  exact ⟨y', w2', exec_append _ _ _ rfl hrun, ApS.lift (hD2.symm) e1_ e2_ (by decide) (by decide)⟩
                intro z
                simp only [Act.put, List.setIfInBounds_toArray, List.set_cons_zero, List.set_cons_succ]
                refine Fx.WM.eff 10 undef (by rfl) (by kernel_rfl) (by kernel_rfl) (by kernel_rfl) (by rfl) ?_ ?_
                · intro g f w' hx hD hk
                  have e1_ : f 10 = false := hk.1
                  have e2_ : f 11 = false := hk.2.1 11 (by kernel_rfl)
                  have hA := ApS.early hD e1_ e2_
                  have q1 := (hA.blk hblk1 hnA1 hnB1).cell 1
                  have p1 := (hA.blk hblk1 hnA1 hnB1).frozen 1
                  have hv : rowV (g 4) (.slice Xp k cp) (k) = .slice y.1 (k + 1) y.2 := by rw [hx 4 _ (by rfl)]; rfl
                  refine Fx.gives_skip (w' := (w'.setCell ⟨w.heap.size + 1, 1, none⟩ (.slice y.1 (k + 1) y.2))) ?_ ?_
                  · clear hx hk hD hA hv
                    go_simp
                    try rfl
                  · exact (by have h := ApS.store1 hD e1_ e2_ (by decide); simp only [hv] at h; exact h)
                simp only [Act.put, List.setIfInBounds_toArray, List.set_cons_zero, List.set_cons_succ]
                refine Fx.WM.eff 11 undef (by rfl) (by kernel_rfl) (by kernel_rfl) (by kernel_rfl) (by rfl) ?_ ?_
                · intro g f w' hx hD hk
                  have e1_ : f 10 = true := hk.2.2.1 10 (by kernel_rfl)
                  have e2_ : f 11 = false := hk.1
                  obtain ⟨w1m, hA, hw1m⟩ := ApS.mid hD e1_ e2_
                  have hb2 : Blk w' (w2.heap.size) 41 #[.slice Xq k cq] := by rw [hw1m]; exact (hA.blk hblk2 hnA2 hnB2).far (p := ⟨w.heap.size + 1, 1, none⟩) (fun e => hneB e.symm) _
                  have q1 := hb2.cell 0
                  have p1 := hb2.frozen 0
                  clear hb2
                  have hv : rowV (g 8) (.slice Xq k cq) (k) = .slice z.1 (k + 1) z.2 := by rw [hx 8 _ (by rfl)]; rfl
                  refine Fx.gives_skip (w' := (w'.setCell ⟨w2.heap.size, 0, none⟩ (.slice z.1 (k + 1) z.2))) ?_ ?_
                  · clear hx hk hD hA hv hw1m
                    go_simp
                    try rfl
                  · exact (by have h := ApS.store2 hD e1_ e2_; simp only [hv] at h; exact h)
                simp only [Act.put, List.setIfInBounds_toArray, List.set_cons_zero, List.set_cons_succ]
                refine Fx.WM.nil (by kernel_rfl) ?_
                intro wz hD
                obtain ⟨w1_, hA, hwz⟩ := ApS.done hD (by rfl)
                exact key x1 y x2 z wz ⟨_, w1_, rfl, rfl, hA, hwz⟩
              · skip
                intro x2
                simp only [Act.put, List.setIfInBounds_toArray, List.set_cons_zero, List.set_cons_succ]
                refine Fx.WM.choose 4 (by rfl) (by kernel_rfl) (by rfl) ?_ ?_
                · skip
                  refine Fx.Chooses.make (by rfl) ?_
                  intro f w' hD hk
                  have e1_ : f 10 = false := (hk.2.1 10 (by kernel_rfl))
                  have e2_ : f 11 = false := hk.2.1 11 (by kernel_rfl)
                  obtain ⟨y', w2', hrun, hD2⟩ := (ApS.early hD e1_ e2_).app (P := Try.prog) (c := 1) Try.underlying41 info_ints rfl rfl (by first | omega | assumption) (by unfold maxLen; omega) (by omega) (x := x1) (by rfl) (by rfl) (by decide) (by decide) (by decide)
                  exact ⟨y', w2', exec_append _ _ _ rfl hrun, ApS.lift (hD2) e1_ e2_ (by decide) (by decide)⟩
                intro y
                simp only [Act.put, List.setIfInBounds_toArray, List.set_cons_zero, List.set_cons_succ]
                first
                | (refine Fx.WM.skip 9 (by rfl) (by kernel_rfl) (by kernel_rfl) (by kernel_rfl) (by rfl) (fun g f w h => ApS.same h (by decide) (by decide)) ?_; simp only [Act.put, List.setIfInBounds_toArray, List.set_cons_zero, List.set_cons_succ])
                | (refine Fx.WM.val_ 9 ?_ (by rfl) (by kernel_rfl) (by kernel_rfl) (by kernel_rfl) (by rfl) ?_ (fun g f w h => ApS.same h (by decide) (by decide)) ?_
                   rotate_left
                   · intro g f w' hx hD hk
                     obtain hap := id hD
                     clear hx hk hD hap
                     go_simp
                     try rfl
                   simp only [Act.put, List.setIfInBounds_toArray, List.set_cons_zero, List.set_cons_succ])
                refine Fx.WM.choose 8 (by rfl) (by kernel_rfl) (by rfl) ?_ ?_
                · skip
                  refine Fx.Chooses.make (by rfl) ?_
                  intro f w' hD hk
                  have e1_ : f 10 = false := (hk.2.1 10 (by kernel_rfl))
                  have e2_ : f 11 = false := hk.2.1 11 (by kernel_rfl)
                  obtain ⟨y', w2', hrun, hD2⟩ := (ApS.early hD e1_ e2_).symm.app (P := Try.prog) (c := 1) Try.underlying41 info_ints rfl rfl (by first | omega | assumption) (by unfold maxLen; omega) (by omega) (x := x2) (by rfl) (by rfl) (by decide) (by decide) (by decide)
                  exact ⟨y', w2', exec_append _ _ _ rfl hrun, ApS.lift (hD2.symm) e1_ e2_ (by decide) (by decide)⟩
                intro z
                simp only [Act.put, List.setIfInBounds_toArray, List.set_cons_zero, List.set_cons_succ]
                refine Fx.WM.eff 10 undef (by rfl) (by kernel_rfl) (by kernel_rfl) (by kernel_rfl) (by rfl) ?_ ?_
                · intro g f w' hx hD hk
                  have e1_ : f 10 = false := hk.1
                  have e2_ : f 11 = false := hk.2.1 11 (by kernel_rfl)
                  have hA := ApS.early hD e1_ e2_
                  have q1 := (hA.blk hblk1 hnA1 hnB1).cell 1
                  have p1 := (hA.blk hblk1 hnA1 hnB1).frozen 1
                  have hv : rowV (g 4) (.slice Xp k cp) (k) = .slice y.1 (k + 1) y.2 := by rw [hx 4 _ (by rfl)]; rfl
                  refine Fx.gives_skip (w' := (w'.setCell ⟨w.heap.size + 1, 1, none⟩ (.slice y.1 (k + 1) y.2))) ?_ ?_
                  · clear hx hk hD hA hv
                    go_simp
                    try rfl
                  · exact (by have h := ApS.store1 hD e1_ e2_ (by decide); simp only [hv] at h; exact h)
                simp only [Act.put, List.setIfInBounds_toArray, List.set_cons_zero, List.set_cons_succ]
                refine Fx.WM.eff 11 undef (by rfl) (by kernel_rfl) (by kernel_rfl) (by kernel_rfl) (by rfl) ?_ ?_
                · intro g f w' hx hD hk
                  have e1_ : f 10 = true := hk.2.2.1 10 (by kernel_rfl)
                  have e2_ : f 11 = false := hk.1
                  obtain ⟨w1m, hA, hw1m⟩ := ApS.mid hD e1_ e2_
                  have hb2 : Blk w' (w2.heap.size) 41 #[.slice Xq k cq] := by rw [hw1m]; exact (hA.blk hblk2 hnA2 hnB2).far (p := ⟨w.heap.size + 1, 1, none⟩) (fun e => hneB e.symm) _
                  have q1 := hb2.cell 0
                  have p1 := hb2.frozen 0
                  clear hb2
                  have hv : rowV (g 8) (.slice Xq k cq) (k) = .slice z.1 (k + 1) z.2 := by rw [hx 8 _ (by rfl)]; rfl
                  refine Fx.gives_skip (w' := (w'.setCell ⟨w2.heap.size, 0, none⟩ (.slice z.1 (k + 1) z.2))) ?_ ?_
                  · clear hx hk hD hA hv hw1m
                    go_simp
                    try rfl
                  · exact (by have h := ApS.store2 hD e1_ e2_; simp only [hv] at h; exact h)
                simp only [Act.put, List.setIfInBounds_toArray, List.set_cons_zero, List.set_cons_succ]
                refine Fx.WM.nil (by kernel_rfl) ?_
                intro wz hD
                obtain ⟨w1_, hA, hwz⟩ := ApS.done hD (by rfl)
                exact key x1 y x2 z wz ⟨_, w1_, rfl, rfl, hA, hwz⟩
            · skip
              intro x2
              simp only [Act.put, List.setIfInBounds_toArray, List.set_cons_zero, List.set_cons_succ]
              refine Fx.WM.choose 3 (by rfl) (by kernel_rfl) (by rfl) ?_ ?_
              · skip
                refine Fx.Chooses.make (by rfl) ?_
                intro f w' hD hk
                have e1_ : f 10 = false := (hk.2.1 10 (by kernel_rfl))
                have e2_ : f 11 = false := hk.2.1 11 (by kernel_rfl)
                refine ⟨(some ⟨w'.heap.size, 0, none⟩, 0), w'.alloc (.cells #[.slice Ac sn cc] 31), ?_, ?_⟩
                · clear hk hD
                  go_simp
                  try rfl
                · exact ApS.lift ((ApS.early hD e1_ e2_).lit (by decide) (by decide) (by decide)) e1_ e2_ (by decide) (by decide)
              intro x1
              simp only [Act.put, List.setIfInBounds_toArray, List.set_cons_zero, List.set_cons_succ]
              refine Fx.WM.choose 4 (by rfl) (by kernel_rfl) (by rfl) ?_ ?_
              · skip
                refine Fx.Chooses.make (by rfl) ?_
                intro f w' hD hk
                have e1_ : f 10 = false := (hk.2.1 10 (by kernel_rfl))
                have e2_ : f 11 = false := hk.2.1 11 (by kernel_rfl)
                obtain ⟨y', w2', hrun, hD2⟩ := (ApS.early hD e1_ e2_).app (P := Try.prog) (c := 1) Try.underlying41 info_ints rfl rfl (by first | omega | assumption) (by unfold maxLen; omega) (by omega) (x := x1) (by rfl) (by rfl) (by decide) (by decide) (by decide)
                exact ⟨y', w2', exec_append _ _ _ rfl hrun, ApS.lift (hD2) e1_ e2_ (by decide) (by decide)⟩
              intro y
              simp only [Act.put, List.setIfInBounds_toArray, List.set_cons_zero, List.set_cons_succ]
              first
              | (refine Fx.WM.skip 9 (by rfl) (by kernel_rfl) (by kernel_rfl) (by kernel_rfl) (by rfl) (fun g f w h => ApS.same h (by decide) (by decide)) ?_; simp only [Act.put, List.setIfInBounds_toArray, List.set_cons_zero, List.set_cons_succ])
              | (refine Fx.WM.val_ 9 ?_ (by rfl) (by kernel_rfl) (by kernel_rfl) (by kernel_rfl) (by rfl) ?_ (fun g f w h => ApS.same h (by decide) (by decide)) ?_
                 rotate_left
                 · intro g f w' hx hD hk
                   obtain hap := id hD
                   clear hx hk hD hap
                   go_simp
                   try rfl
                 simp only [Act.put, List.setIfInBounds_toArray, List.set_cons_zero, List.set_cons_succ])
              refine Fx.WM.choose 8 (by rfl) (by kernel_rfl) (by rfl) ?_ ?_
              · skip
                refine Fx.Chooses.make (by rfl) ?_
                intro f w' hD hk
                have e1_ : f 10 = false := (hk.2.1 10 (by kernel_rfl))
                have e2_ : f 11 = false := hk.2.1 11 (by kernel_rfl)
                obtain ⟨y', w2', hrun, hD2⟩ := (ApS.early hD e1_ e2_).symm.app (P := Try.prog) (c := 1) Try.underlying41 info_ints rfl rfl (by first | omega | assumption) (by unfold maxLen; omega) (by omega) (x := x2) (by rfl) (by rfl) (by decide) (by decide) (by decide)
                exact ⟨y', w2', exec_append _ _ _ rfl hrun, ApS.lift (hD2.symm) e1_ e2_ (by decide) (by decide)⟩
              intro z
              simp only [Act.put, List.setIfInBounds_toArray, List.set_cons_zero, List.set_cons_succ]
              refine Fx.WM.eff 10 undef (by rfl) (by kernel_rfl) (by kernel_rfl) (by kernel_rfl) (by rfl) ?_ ?_
              · intro g f w' hx hD hk
                have e1_ : f 10 = false := hk.1
                have e2_ : f 11 = false := hk.2.1 11 (by kernel_rfl)
                have hA := ApS.early hD e1_ e2_
                have q1 := (hA.blk hblk1 hnA1 hnB1).cell 1
                have p1 := (hA.blk hblk1 hnA1 hnB1).frozen 1
                have hv : rowV (g 4) (.slice Xp k cp) (k) = .slice y.1 (k + 1) y.2 := by rw [hx 4 _ (by rfl)]; rfl
                refine Fx.gives_skip (w' := (w'.setCell ⟨w.heap.size + 1, 1, none⟩ (.slice y.1 (k + 1) y.2))) ?_ ?_
                · clear hx hk hD hA hv
                  go_simp
                  try rfl
                · exact (by have h := ApS.store1 hD e1_ e2_ (by decide); simp only [hv] at h; exact h)
              simp only [Act.put, List.setIfInBounds_toArray, List.set_cons_zero, List.set_cons_succ]
              refine Fx.WM.eff 11 undef (by rfl) (by kernel_rfl) (by kernel_rfl) (by kernel_rfl) (by rfl) ?_ ?_
              · intro g f w' hx hD hk
                have e1_ : f 10 = true := hk.2.2.1 10 (by kernel_rfl)
                have e2_ : f 11 = false := hk.1
                obtain ⟨w1m, hA, hw1m⟩ := ApS.mid hD e1_ e2_
                have hb2 : Blk w' (w2.heap.size) 41 #[.slice Xq k cq] := by rw [hw1m]; exact (hA.blk hblk2 hnA2 hnB2).far (p := ⟨w.heap.size + 1, 1, none⟩) (fun e => hneB e.symm) _
                have q1 := hb2.cell 0
                have p1 := hb2.frozen 0
                clear hb2
                have hv : rowV (g 8) (.slice Xq k cq) (k) = .slice z.1 (k + 1) z.2 := by rw [hx 8 _ (by rfl)]; rfl
                refine Fx.gives_skip (w' := (w'.setCell ⟨w2.heap.size, 0, none⟩ (.slice z.1 (k + 1) z.2))) ?_ ?_
                · clear hx hk hD hA hv hw1m
                  go_simp
                  try rfl
                · exact (by have h := ApS.store2 hD e1_ e2_; simp only [hv] at h; exact h)
              simp only [Act.put, List.setIfInBounds_toArray, List.set_cons_zero, List.set_cons_succ]
              refine Fx.WM.nil (by kernel_rfl) ?_
              intro wz hD
              obtain ⟨w1_, hA, hwz⟩ := ApS.done hD (by rfl)
              exact key x1 y x2 z wz ⟨_, w1_, rfl, rfl, hA, hwz⟩
          rintro x1 y x2 z w9 ⟨g, w1_, hgy, hgz, hap, hw2⟩
          obtain ⟨hoA, hoB, hoS⟩ := hap.ends hgy hgz
          obtain ⟨c9, t9, o9, b9⟩ := HCI7.out.step HOC3.out HOB3.out hap hgy hgz hw2 hcB3 htB hneB HT7.out rfl HEC.out HEY.out
          have hne5 : ¬ w5.heap.size = w.heap.size + 1 := by omega
          have hne6 : ¬ w5.heap.size = w2.heap.size := by omega
          have hk9 := b9 _ _ _ K0_7.out (by decide) hne5 hne6
          have hbw9 : Below w.heap.size w w9 := HB3.out.trans (t9.below (B := w.heap.size) (fun g hg => by have hg : g = w.heap.size + 1 ∨ g = w2.heap.size := hg; omega) (by omega))
          have hO9 := ((HT.out.lay hbw9).ok _ HSM.out).2
          simp only at hO9
          rw [HPP.out] at hO9
          have hd9 := own_reads2 o9
          have HC9 := Lib.hid c9
          have HT9 := Lib.hid t9
          clear c9 t9 o9 b9 hap hgy hgz hw2 hoA hoB hoS hne5 hne6 hownA hownB hsepAB hblk1 hblk2 hnA1 hnA2 hnB1 hnB2
          have HB9 := Lib.hid hbw9
          have K0_9 := Lib.hid (show Blk w9 (w5.heap.size) 73 #[.string st.name, .int .i64 (st.az), .int .i64 (st.ht), .int .i64 (st.fr), .int .i64 (st.to), .int .i64 (st.dw), .slice sA sn sc, .slice (some ⟨ob, oo, none⟩) sn sc'] from hk9)
          clear hbw9 hk9
          have l0_9 : w5.heap.size < w9.heap.size := K0_9.out.lt
          have z0_0_9 : w9.cell? ⟨w5.heap.size, 0, none⟩ = some (.string st.name) := K0_9.out.cell 0
          have z0_1_9 : w9.cell? ⟨w5.heap.size, 1, none⟩ = some (.int .i64 (st.az)) := K0_9.out.cell 1
          have z0_2_9 : w9.cell? ⟨w5.heap.size, 2, none⟩ = some (.int .i64 (st.ht)) := K0_9.out.cell 2
          have z0_3_9 : w9.cell? ⟨w5.heap.size, 3, none⟩ = some (.int .i64 (st.fr)) := K0_9.out.cell 3
          have z0_4_9 : w9.cell? ⟨w5.heap.size, 4, none⟩ = some (.int .i64 (st.to)) := K0_9.out.cell 4
          have z0_5_9 : w9.cell? ⟨w5.heap.size, 5, none⟩ = some (.int .i64 (st.dw)) := K0_9.out.cell 5
          have z0_6_9 : w9.cell? ⟨w5.heap.size, 6, none⟩ = some (.slice sA sn sc) := K0_9.out.cell 6
          have z0_7_9 : w9.cell? ⟨w5.heap.size, 7, none⟩ = some (.slice (some ⟨ob, oo, none⟩) sn sc') := K0_9.out.cell 7
          have R0_9 := Lib.hid hd9
          clear hd9
          have R1_9 := Lib.hid hO9
          clear hO9
          go_wp2_with fail
          refine Fx.regionW (fun W f w' => Below W.heap.size W w') (by kernel_rfl) (by kernel_rfl) ?_ ?_
          · intro f hf0
            exact below_drewN (Below.refl _ _) 1
          repeat (first
            | (refine Fx.skip_ (by rfl) (fun f w h => h) ?_; simp only [Act.put, List.setIfInBounds_toArray, List.set_cons_zero, List.set_cons_succ])
            | (refine Fx.val_ ?_ (by rfl) ?_ (fun f w h => h) ?_
               rotate_left
               · intro f w' hD hk
                 have hb := hD
                 have kb0 := step_blk hb (show Blk _ (w5.heap.size) 73 #[.string st.name, .int .i64 (st.az), .int .i64 (st.ht), .int .i64 (st.fr), .int .i64 (st.to), .int .i64 (st.dw), .slice sA sn sc, .slice (some ⟨ob, oo, none⟩) sn sc'] by repeat' (first | exact K0_9.out | exact Blk.at_ _ (by first | rfl | (simp; done) | (simp; omega)) _ _ | refine Blk.drewN ?_ _ | refine Blk.drew ?_ | refine Blk.alloc ?_ _ | refine Blk.far ?_ (by first | omega | (simp; done) | (simp; omega)) _ | assumption))
                 have y0_0 : w'.cell? ⟨w5.heap.size, 0, none⟩ = some (.string st.name) := kb0.cell 0
                 have y0_1 : w'.cell? ⟨w5.heap.size, 1, none⟩ = some (.int .i64 (st.az)) := kb0.cell 1
                 have y0_2 : w'.cell? ⟨w5.heap.size, 2, none⟩ = some (.int .i64 (st.ht)) := kb0.cell 2
                 have y0_3 : w'.cell? ⟨w5.heap.size, 3, none⟩ = some (.int .i64 (st.fr)) := kb0.cell 3
                 have y0_4 : w'.cell? ⟨w5.heap.size, 4, none⟩ = some (.int .i64 (st.to)) := kb0.cell 4
                 have y0_5 : w'.cell? ⟨w5.heap.size, 5, none⟩ = some (.int .i64 (st.dw)) := kb0.cell 5
                 have y0_6 : w'.cell? ⟨w5.heap.size, 6, none⟩ = some (.slice sA sn sc) := kb0.cell 6
                 have y0_7 : w'.cell? ⟨w5.heap.size, 7, none⟩ = some (.slice (some ⟨ob, oo, none⟩) sn sc') := kb0.cell 7
                 clear kb0
                 clear hk hD hb
                 go_simp
                 try rfl
               simp only [Act.put, List.setIfInBounds_toArray, List.set_cons_zero, List.set_cons_succ]))
          refine Fx.nil_ ?_
          intro f w10 hall hb
          try clear hall
          have HB910 := Lib.hid hb
          have HB10 := Lib.hid (show Below w.heap.size w w10 from step_below hb (by repeat' (first | exact Below.refl _ _ | exact HB9.out | refine below_drewN ?_ _ | refine Below.drew ?_ | refine Below.alloc ?_ (by first | omega | (simp; done) | (simp; omega) | (simp [World.setCell]; omega)) _ | refine Below.setCell ?_ (by first | omega | (simp; done) | (simp; omega)) _ | assumption)))
          have K0_10 := Lib.hid (step_blk hb (show Blk _ (w5.heap.size) 73 #[.string st.name, .int .i64 (st.az), .int .i64 (st.ht), .int .i64 (st.fr), .int .i64 (st.to), .int .i64 (st.dw), .slice sA sn sc, .slice (some ⟨ob, oo, none⟩) sn sc'] by repeat' (first | exact K0_9.out | exact Blk.at_ _ (by first | rfl | (simp; done) | (simp; omega)) _ _ | refine Blk.drewN ?_ _ | refine Blk.drew ?_ | refine Blk.alloc ?_ _ | refine Blk.far ?_ (by first | omega | (simp; done) | (simp; omega)) _ | assumption)))
          have hL10 := Lib.hid (show Below w9.heap.size w9 _ from reads_mid hb (by repeat' (first | exact Below.refl _ _ | refine below_drewN ?_ _ | refine Below.drew ?_ | refine Below.alloc ?_ (by first | omega | (simp; done) | (simp; omega) | (simp [World.setCell]; omega)) _ | refine Below.setCell ?_ (by first | omega | (simp; done) | (simp; omega)) _)))
          have R0_10 := Lib.hid (reads_lay hb hL10.out R0_9.out)
          have R1_10 := Lib.hid (reads_lay hb hL10.out R1_9.out)
          clear hL10 R0_9 R1_9
          have hz10 := hb.size
          try simp only [World.size_alloc, World.drewN, World.drew] at hz10
          clear hb K0_9 z0_0_9 z0_1_9 z0_2_9 z0_3_9 z0_4_9 z0_5_9 z0_6_9 z0_7_9 l0_9
          have l0_10 : w5.heap.size < w10.heap.size := K0_10.out.lt
          have z0_0_10 : w10.cell? ⟨w5.heap.size, 0, none⟩ = some (.string st.name) := K0_10.out.cell 0
          have z0_1_10 : w10.cell? ⟨w5.heap.size, 1, none⟩ = some (.int .i64 (st.az)) := K0_10.out.cell 1
          have z0_2_10 : w10.cell? ⟨w5.heap.size, 2, none⟩ = some (.int .i64 (st.ht)) := K0_10.out.cell 2
          have z0_3_10 : w10.cell? ⟨w5.heap.size, 3, none⟩ = some (.int .i64 (st.fr)) := K0_10.out.cell 3
          have z0_4_10 : w10.cell? ⟨w5.heap.size, 4, none⟩ = some (.int .i64 (st.to)) := K0_10.out.cell 4
          have z0_5_10 : w10.cell? ⟨w5.heap.size, 5, none⟩ = some (.int .i64 (st.dw)) := K0_10.out.cell 5
          have z0_6_10 : w10.cell? ⟨w5.heap.size, 6, none⟩ = some (.slice sA sn sc) := K0_10.out.cell 6
          have z0_7_10 : w10.cell? ⟨w5.heap.size, 7, none⟩ = some (.slice (some ⟨ob, oo, none⟩) sn sc') := K0_10.out.cell 7
          have hb910 : Below w9.heap.size w9 w10 := HB910.out
          have HB0910 := Lib.hid hb910
          clear hb910
          go_wp2
          rw [← hAs]
          go_roundw
          case rel => exact ⟨k + 1, sn, Ac, cc, some ⟨ob, oo, none⟩, sc', y.1, z.1, y.2, z.2, _, _, by omega, by omega, by go_num, rfl, rfl, HT9.out.call HB0910.out, HC9.out.below HB0910.out, by rw [← HEC.out]; exact R0_10.out, by rw [HFS.out]; exact R1_10.out⟩
          case measure => simp [intOf]; omega
    · obtain rfl : n = k := by omega
      obtain ⟨v, hv⟩ : ∃ v, leastC m day pos l = v := ⟨_, rfl⟩
      obtain ⟨B, hB⟩ : ∃ B, dpB m day pos l n = B := ⟨_, rfl⟩
      have hq0 : 0 < q := by have h1 := fro_some (pos := pos) HNE.out n (by rw [HN.out]; omega); have h2 := haf.ilen; omega
      have hmem : v ∈ B := by rw [← hv, ← hB, ← HN.out]; exact leastC_mem HNE.out
      have hmn : minF B = v := by rw [← hv, ← hB, ← HN.out]; rfl
      rw [hB] at hab
      have htB0 : Blk w5 tb 71 #[.int .i64 pos, .slice A n c] := by have := hTour.blk; rwa [HN.out] at this
      have hcb5 := HC5.out.cb
      have htb5 := HC5.out.tb
      have hne0 : ¬ w.heap.size = w2.heap.size := by omega
      have hrb5 := HT5.out.blk K0_3.out (show ¬ (w.heap.size = w.heap.size + 1 ∨ w.heap.size = w2.heap.size) by omega)
      have HAB := Lib.hid hab
      have HAF := Lib.hid haf
      have HMEM := Lib.hid hmem
      have HMN := Lib.hid hmn
      have HBV := Lib.hid hB
      have HVV := Lib.hid hv
      have hmk : ∀ w : World, (Instr.makeSlice 31 (.int .i64 (n : Int)) (.int .i64 (n : Int))).run Try.prog w = .ok (.slice (some ⟨w.heap.size, 0, none⟩) n n) (w.alloc (.cells ((List.range n).map fun _ => Value.int .i64 0).toArray 3)) := fun w => by
        obtain ⟨i0, hi0, hz0, hz1, hz2⟩ := info_parts info_int
        have := run_make_rowN (P := Try.prog) 31 3 i0 _ Try.underlying31 hi0 hz0 .i64 .i64 n n (Nat.le_refl _) (by rw [hz2]; omega) (by omega) w
        rw [this, hz1, Nat.mul_one]
        rw [show (Value.int .i64 0).cells = #[.int .i64 0] from rfl, made_one]
      clear hab haf hmem hmn hB hv hTour
      have HB5 := Lib.hid hbw5
      have K0_5 := Lib.hid (show Blk w5 (w.heap.size) 43 #[.slice none 0 0, .slice none 0 0] from hrb5)
      have K1_5 := Lib.hid (show Blk w5 (w.heap.size + 1) 43 #[.slice none 0 0, .slice Xp n cp] from hcb5)
      have K2_5 := Lib.hid (show Blk w5 (w2.heap.size) 41 #[.slice Xq n cq] from htb5)
      have K3_5 := Lib.hid (show Blk w5 (tb) 71 #[.int .i64 (pos), .slice A n c] from htB0)
      clear hbw5 hrb5 hcb5 htb5 htB0
      have l0_5 : w.heap.size < w5.heap.size := K0_5.out.lt
      have z0_0_5 : w5.cell? ⟨w.heap.size, 0, none⟩ = some (.slice none 0 0) := K0_5.out.cell 0
      have z0_1_5 : w5.cell? ⟨w.heap.size, 1, none⟩ = some (.slice none 0 0) := K0_5.out.cell 1
      have l1_5 : w.heap.size + 1 < w5.heap.size := K1_5.out.lt
      have z1_0_5 : w5.cell? ⟨w.heap.size + 1, 0, none⟩ = some (.slice none 0 0) := K1_5.out.cell 0
      have z1_1_5 : w5.cell? ⟨w.heap.size + 1, 1, none⟩ = some (.slice Xp n cp) := K1_5.out.cell 1
      have l2_5 : w2.heap.size < w5.heap.size := K2_5.out.lt
      have z2_0_5 : w5.cell? ⟨w2.heap.size, 0, none⟩ = some (.slice Xq n cq) := K2_5.out.cell 0
      have l3_5 : tb < w5.heap.size := K3_5.out.lt
      have z3_0_5 : w5.cell? ⟨tb, 0, none⟩ = some (.int .i64 (pos)) := K3_5.out.cell 0
      have z3_1_5 : w5.cell? ⟨tb, 1, none⟩ = some (.slice A n c) := K3_5.out.cell 1
      go_wp2_with fail
      refine (pmin_is Ab q cb _ B v HMN.out hq0 _ HAB.out (by omega)).mono ?_
      rintro e w' ⟨rfl, rfl⟩
      go_wp2_with fail
      refine (pindex_yes Ab q cb _ B v HMEM.out _ HAB.out (by omega)).mono ?_
      rintro e w' ⟨⟨k0, rfl, hk0⟩, rfl⟩
      have hk0q : k0 < q := by have h1 := (List.getElem?_eq_some_iff.1 hk0).1; have h2 := HAB.out.ilen; omega
      have HK0 := Lib.hid hk0
      clear hk0
      go_upto_region 25 with fail
      generalize hwn : (w5.alloc (.cells #[.int .i64 (k0)] 3)) = w6
      have hbn : Below w5.heap.size w5 w6 := by rw [← hwn]; repeat' (first | exact Below.refl _ _ | refine below_drewN ?_ _ | refine Below.drew ?_ | refine Below.alloc ?_ (by first | omega | (simp; done) | (simp; omega) | (simp [World.setCell]; omega)) _ | refine Below.setCell ?_ (by first | omega | (simp; done) | (simp; omega)) _)
      have HB6 := Lib.hid (show Below w.heap.size w w6 from HB5.out.trans (hbn.mono HB5.out.size))
      have K0_6 := Lib.hid (step_blk hbn K0_5.out)
      have K1_6 := Lib.hid (step_blk hbn K1_5.out)
      have K2_6 := Lib.hid (step_blk hbn K2_5.out)
      have K3_6 := Lib.hid (step_blk hbn K3_5.out)
      have K4_6 := Lib.hid (show Blk w6 (w5.heap.size) 3 #[.int .i64 (k0)] by rw [← hwn]; repeat' (first | exact Blk.at_ _ (by first | rfl | (simp; done) | (simp; omega)) _ _ | refine Blk.drewN ?_ _ | refine Blk.drew ?_ | refine Blk.alloc ?_ _ | refine Blk.far ?_ (by first | omega | (simp; done) | (simp; omega)) _ | assumption))
      have HN6 := Lib.hid hbn
      have hz6 := hbn.size
      clear hwn hbn K0_5 l0_5 z0_0_5 z0_1_5 K1_5 l1_5 z1_0_5 z1_1_5 K2_5 l2_5 z2_0_5 K3_5 l3_5 z3_0_5 z3_1_5
      have l0_6 : w.heap.size < w6.heap.size := K0_6.out.lt
      have z0_0_6 : w6.cell? ⟨w.heap.size, 0, none⟩ = some (.slice none 0 0) := K0_6.out.cell 0
      have z0_1_6 : w6.cell? ⟨w.heap.size, 1, none⟩ = some (.slice none 0 0) := K0_6.out.cell 1
      have l1_6 : w.heap.size + 1 < w6.heap.size := K1_6.out.lt
      have z1_0_6 : w6.cell? ⟨w.heap.size + 1, 0, none⟩ = some (.slice none 0 0) := K1_6.out.cell 0
      have z1_1_6 : w6.cell? ⟨w.heap.size + 1, 1, none⟩ = some (.slice Xp n cp) := K1_6.out.cell 1
      have l2_6 : w2.heap.size < w6.heap.size := K2_6.out.lt
      have z2_0_6 : w6.cell? ⟨w2.heap.size, 0, none⟩ = some (.slice Xq n cq) := K2_6.out.cell 0
      have l3_6 : tb < w6.heap.size := K3_6.out.lt
      have z3_0_6 : w6.cell? ⟨tb, 0, none⟩ = some (.int .i64 (pos)) := K3_6.out.cell 0
      have z3_1_6 : w6.cell? ⟨tb, 1, none⟩ = some (.slice A n c) := K3_6.out.cell 1
      have l4_6 : w5.heap.size < w6.heap.size := K4_6.out.lt
      have z4_0_6 : w6.cell? ⟨w5.heap.size, 0, none⟩ = some (.int .i64 (k0)) := K4_6.out.cell 0
      have zc0 := (K1_6.out.alloc (.cells ((List.range n).map fun _ => Value.int .i64 0).toArray 3)).cell 0
      have zc1 := (K1_6.out.alloc (.cells ((List.range n).map fun _ => Value.int .i64 0).toArray 3)).frozen 0
      go_upto_region 26 with fail
      clear zc0 zc1
      generalize hw7 : (w6.setCell ⟨w.heap.size + 1, 0, none⟩ (.slice (some ⟨w6.heap.size, 0, none⟩) n n)).alloc (.cells ((List.range n).map fun _ => Value.int .i64 0).toArray 3) = w7
      have htu : RB w7 w6.heap.size 3 n (fun _ => .int .i64 0) := by rw [← hw7]; exact Blk.at_ _ (by simp [World.setCell]) _ _
      have ht67 : Tch (fun g => g = w.heap.size + 1) w6 w7 := by rw [← hw7]; exact ((Tch.refl (fun g => g = w.heap.size + 1) w6).setCell (p := ⟨w.heap.size + 1, 0, none⟩) (.inl rfl) _).alloc _
      have hcb7 : Blk w7 (w.heap.size + 1) 43 #[.slice (some ⟨w6.heap.size, 0, none⟩) n n, .slice Xp n cp] := by
        rw [← hw7]
        refine Blk.alloc ?_ _
        have h := K1_6.out.set_ 0 (.slice (some ⟨w6.heap.size, 0, none⟩) n n)
        simpa only [List.setIfInBounds_toArray, List.set_cons_zero] using h
      have hs67 : w6.heap.size < w7.heap.size := htu.lt
      have hb7 : Below w.heap.size w w7 := HB6.out.trans (ht67.below (B := w.heap.size) (fun g hg => by have hg : g = w.heap.size + 1 := hg; omega) (by omega))
      have htb7 := ht67.blk K2_6.out (show ¬ w2.heap.size = w.heap.size + 1 by omega)
      have hrb7 := ht67.blk K0_6.out (show ¬ w.heap.size = w.heap.size + 1 by omega)
      have hkb7 := ht67.blk K4_6.out (show ¬ w5.heap.size = w.heap.size + 1 by omega)
      have hcb0 : tb ≠ w.heap.size + 1 := by have := HBL.out.lt; omega
      have htt7 := ht67.blk K3_6.out (show ¬ tb = w.heap.size + 1 from hcb0)
      have ht57 : Tch (fun g => g = w.heap.size + 1) w5 w7 := (Tch.of_below HN6.out).trans ht67
      have HT57 := Lib.hid ht57
      have HTU := Lib.hid htu
      clear hw7 htu ht67 ht57
      have HB7 := Lib.hid hb7
      have K0_7 := Lib.hid (show Blk w7 (w.heap.size) 43 #[.slice none 0 0, .slice none 0 0] from hrb7)
      have K1_7 := Lib.hid (show Blk w7 (w.heap.size + 1) 43 #[.slice (some ⟨w6.heap.size, 0, none⟩) n n, .slice Xp n cp] from hcb7)
      have K2_7 := Lib.hid (show Blk w7 (w2.heap.size) 41 #[.slice Xq n cq] from htb7)
      have K3_7 := Lib.hid (show Blk w7 (tb) 71 #[.int .i64 (pos), .slice A n c] from htt7)
      have K4_7 := Lib.hid (show Blk w7 (w5.heap.size) 3 #[.int .i64 (k0)] from hkb7)
      clear hb7 hrb7 hcb7 htb7 htt7 hkb7
      have l0_7 : w.heap.size < w7.heap.size := K0_7.out.lt
      have z0_0_7 : w7.cell? ⟨w.heap.size, 0, none⟩ = some (.slice none 0 0) := K0_7.out.cell 0
      have z0_1_7 : w7.cell? ⟨w.heap.size, 1, none⟩ = some (.slice none 0 0) := K0_7.out.cell 1
      have l1_7 : w.heap.size + 1 < w7.heap.size := K1_7.out.lt
      have z1_0_7 : w7.cell? ⟨w.heap.size + 1, 0, none⟩ = some (.slice (some ⟨w6.heap.size, 0, none⟩) n n) := K1_7.out.cell 0
      have z1_1_7 : w7.cell? ⟨w.heap.size + 1, 1, none⟩ = some (.slice Xp n cp) := K1_7.out.cell 1
      have l2_7 : w2.heap.size < w7.heap.size := K2_7.out.lt
      have z2_0_7 : w7.cell? ⟨w2.heap.size, 0, none⟩ = some (.slice Xq n cq) := K2_7.out.cell 0
      have l3_7 : tb < w7.heap.size := K3_7.out.lt
      have z3_0_7 : w7.cell? ⟨tb, 0, none⟩ = some (.int .i64 (pos)) := K3_7.out.cell 0
      have z3_1_7 : w7.cell? ⟨tb, 1, none⟩ = some (.slice A n c) := K3_7.out.cell 1
      have l4_7 : w5.heap.size < w7.heap.size := K4_7.out.lt
      have z4_0_7 : w7.cell? ⟨w5.heap.size, 0, none⟩ = some (.int .i64 (k0)) := K4_7.out.cell 0
      go_wp2_with fail
      refine (back_any A n c w7).mono ?_
      rintro e w' ⟨rfl, rfl⟩
      generalize hwn : (w7.alloc (.cells #[.slice A n c] 69)) = w8
      have hbn : Below w7.heap.size w7 w8 := by rw [← hwn]; repeat' (first | exact Below.refl _ _ | refine below_drewN ?_ _ | refine Below.drew ?_ | refine Below.alloc ?_ (by first | omega | (simp; done) | (simp; omega) | (simp [World.setCell]; omega)) _ | refine Below.setCell ?_ (by first | omega | (simp; done) | (simp; omega)) _)
      have HB8 := Lib.hid (show Below w.heap.size w w8 from HB7.out.trans (hbn.mono HB7.out.size))
      have K0_8 := Lib.hid (step_blk hbn K0_7.out)
      have K1_8 := Lib.hid (step_blk hbn K1_7.out)
      have K2_8 := Lib.hid (step_blk hbn K2_7.out)
      have K3_8 := Lib.hid (step_blk hbn K3_7.out)
      have K4_8 := Lib.hid (step_blk hbn K4_7.out)
      have K5_8 := Lib.hid (show Blk w8 (w7.heap.size) 69 #[.slice A n c] by rw [← hwn]; repeat' (first | exact Blk.at_ _ (by first | rfl | (simp; done) | (simp; omega)) _ _ | refine Blk.drewN ?_ _ | refine Blk.drew ?_ | refine Blk.alloc ?_ _ | refine Blk.far ?_ (by first | omega | (simp; done) | (simp; omega)) _ | assumption))
      have HN8 := Lib.hid hbn
      have hz8 := hbn.size
      clear hwn hbn K0_7 l0_7 z0_0_7 z0_1_7 K1_7 l1_7 z1_0_7 z1_1_7 K2_7 l2_7 z2_0_7 K3_7 l3_7 z3_0_7 z3_1_7 K4_7 l4_7 z4_0_7
      have l0_8 : w.heap.size < w8.heap.size := K0_8.out.lt
      have z0_0_8 : w8.cell? ⟨w.heap.size, 0, none⟩ = some (.slice none 0 0) := K0_8.out.cell 0
      have z0_1_8 : w8.cell? ⟨w.heap.size, 1, none⟩ = some (.slice none 0 0) := K0_8.out.cell 1
      have l1_8 : w.heap.size + 1 < w8.heap.size := K1_8.out.lt
      have z1_0_8 : w8.cell? ⟨w.heap.size + 1, 0, none⟩ = some (.slice (some ⟨w6.heap.size, 0, none⟩) n n) := K1_8.out.cell 0
      have z1_1_8 : w8.cell? ⟨w.heap.size + 1, 1, none⟩ = some (.slice Xp n cp) := K1_8.out.cell 1
      have l2_8 : w2.heap.size < w8.heap.size := K2_8.out.lt
      have z2_0_8 : w8.cell? ⟨w2.heap.size, 0, none⟩ = some (.slice Xq n cq) := K2_8.out.cell 0
      have l3_8 : tb < w8.heap.size := K3_8.out.lt
      have z3_0_8 : w8.cell? ⟨tb, 0, none⟩ = some (.int .i64 (pos)) := K3_8.out.cell 0
      have z3_1_8 : w8.cell? ⟨tb, 1, none⟩ = some (.slice A n c) := K3_8.out.cell 1
      have l4_8 : w5.heap.size < w8.heap.size := K4_8.out.lt
      have z4_0_8 : w8.cell? ⟨w5.heap.size, 0, none⟩ = some (.int .i64 (k0)) := K4_8.out.cell 0
      have l5_8 : w7.heap.size < w8.heap.size := K5_8.out.lt
      have z5_0_8 : w8.cell? ⟨w7.heap.size, 0, none⟩ = some (.slice A n c) := K5_8.out.cell 0
      have htu8 : RB w8 w6.heap.size 3 n (fun _ => .int .i64 0) := HTU.out.lay HN8.out
      have HTU8 := Lib.hid htu8
      have ht58 : Tch (fun g => g = w.heap.size + 1) w5 w8 := HT57.out.call HN8.out
      have HT58 := Lib.hid ht58
      clear htu8 HTU HT57 ht58
      have HKI : Hid (EndC m day pos l k0) := by show (dpB m day pos l l.length)[k0]? = some (leastC m day pos l); rw [HN.out, HBV.out, HVV.out]; exact HK0.out
      have hkb8 : w5.heap.size < w8.heap.size := l4_8
      have htu8 : w6.heap.size < w8.heap.size := HTU8.out.lt
      have hs56 : w5.heap.size < w6.heap.size := l4_6
      have hs68 : w6.heap.size < w7.heap.size := hs67
      have hbs8 : w7.heap.size < w8.heap.size := l5_8
      have hcl : w.heap.size + 1 < w8.heap.size := l1_8
      have htt : tb < w8.heap.size := l3_8
      have hs58 := hs35
      go_wp2_with fail
      refine (wpIn_wide (n := 10)).1 ?_
      refine range_steps (gf := 73) (lb := #[.pointer (some ⟨w7.heap.size, 0, none⟩)]) rfl (enters_of Try.func73 (by kernel_rfl) rfl)
        (back1_in S A n c w7.heap.size 9 (by omega)) (fun _ => rfl) (fun j W => BkI m day pos l k0 w5.heap.size w6.heap.size w8 j W) (fun j W W' t h => h.keep hkb8 htu8 t) ?hK ?h0 ?hround ?hdone
      case hK =>
        intro j W h
        have hb : Below w.heap.size w W := HB8.out.trans (h.tch.below (B := w.heap.size) (fun q hq => by have hq : q = w5.heap.size ∨ q = w6.heap.size := hq; omega) (by omega))
        have hr := (HT.out.lay hb).row
        rw [HN.out] at hr
        exact ⟨(h.tch.cell (p := ⟨w7.heap.size, 0, none⟩) hbs8 (show ¬ (w7.heap.size = w5.heap.size ∨ w7.heap.size = w6.heap.size) by omega)).trans z5_0_8, hr⟩
      case h0 =>
        refine ⟨Tch.refl _ _, K4_8.out, ?_⟩
        rw [HN.out]
        exact HTU8.out.congr fun i hi => by unfold tuF; rw [if_neg (by rw [HN.out]; omega)]
      case hround =>
        intro lp j W hl1 hl2 hj hi
        obtain ⟨q9, hq9⟩ : ∃ q9, q9 + j + 1 = n := ⟨n - 1 - j, by omega⟩
        have eq2 : n - 1 - j = q9 := by omega
        have hbW : Below w.heap.size w W := HB8.out.trans (hi.tch.below (B := w.heap.size) (fun g hg => by have hg : g = w5.heap.size ∨ g = w6.heap.size := hg; omega) (by omega))
        obtain ⟨-, -, s, -, -, hs, -, -, -⟩ := (HT.out.lay hbW).row.stp (show q9 < l.length by rw [HN.out]; omega)
        have HSM : Hid (s ∈ S) := List.mem_of_getElem? hs
        have hts : l[q9]? = some s.t := by
          have := congrArg (fun z => z[q9]?) HT.out.ts
          simp only [List.getElem?_map, hs, Option.map_some] at this
          exact this.symm
        have hsv : stpAt S q9 = .agg #[.string s.t.name, .int .i64 s.t.az, .int .i64 s.t.ht, .int .i64 s.t.fr, .int .i64 s.t.to, .int .i64 s.t.dw, .slice s.A s.n s.c, .slice s.A' s.n s.c'] := by unfold stpAt; rw [hs]; rfl
        have hjl : l.length - 1 - q9 = j := by rw [HN.out]; omega
        have htn := turns_at HKI.out HNE.out hts
        rw [hjl] at htn
        have hcm := came_at HKI.out HNE.out (show j < l.length by rw [HN.out]; exact hj)
        rw [show l.length - 1 - j = q9 by rw [HN.out]; omega] at hcm
        obtain ⟨kk, hkk⟩ : ∃ kk, wayC m day pos l k0 j = kk := ⟨_, rfl⟩
        obtain ⟨k2, hk2⟩ : ∃ k2, wayC m day pos l k0 (j + 1) = k2 := ⟨_, rfl⟩
        obtain ⟨TU, hTU⟩ : ∃ TU, (turnsC m day pos l k0)[q9]?.getD 0 = TU := ⟨_, rfl⟩
        rw [hkk, hTU] at htn
        rw [hkk, hk2] at hcm
        have HI := Lib.hid hi
        have HTN := Lib.hid htn
        have HCMA := Lib.hid hcm
        have HWK := Lib.hid hkk
        have HK2 := Lib.hid hk2
        have HTU9 := Lib.hid hTU
        have HQ9 := Lib.hid hq9
        obtain ⟨st, sA, sn, sc, sA', sc'⟩ := s
        simp only at hsv
        have hts : l[q9]? = some st := hts
        have HTS := Lib.hid hts
        dsimp only
        rw [eq2, hsv]
        clear hi hs hts hsv htn hcm hkk hk2 hTU eq2 hjl
        gi_wp2
        show Tch (fun _ => False) W _ ∧ _
        refine ⟨(Tch.refl _ W).alloc _, fun W2 t2 hi2 => ?_⟩
        have hsB : Blk W2 W.heap.size 73 #[.string st.name, .int .i64 st.az, .int .i64 st.ht, .int .i64 st.fr, .int .i64 st.to, .int .i64 st.dw, .slice sA sn sc, .slice sA' sn sc'] := t2.blk (Blk.new _ _ _) (show ¬ W.heap.size = lp by omega)
        have hsB8 : w8.heap.size ≤ W.heap.size := HI.out.tch.size
        have hnt : ¬ (w.heap.size + 1 = w5.heap.size ∨ w.heap.size + 1 = w6.heap.size) := by omega
        have hnm : ¬ (w2.heap.size = w5.heap.size ∨ w2.heap.size = w6.heap.size) := by omega
        have hcb2 := hi2.tch.blk K1_8.out hnt
        have htb2 := hi2.tch.blk K2_8.out hnm
        have hkb2 := hi2.kb
        rw [HWK.out] at hkb2
        have htu2 := hi2.tb
        have hbW2 : Below w.heap.size w W2 := HB8.out.trans (hi2.tch.below (B := w.heap.size) (fun g hg => by have hg : g = w5.heap.size ∨ g = w6.heap.size := hg; omega) (by omega))
        have ht52 : Tch (fun g => g = w.heap.size + 1) w5 W2 := HT58.out.then_ hi2.tch (fun i h1 h2 => absurd h1 (by have h2 : i = w5.heap.size ∨ i = w6.heap.size := h2; omega))
        have hrow := (HC5.out.came.tch ht52 (fun q h1 h2 e => by have e : q = w.heap.size + 1 := e; omega))
        have hst1 := ((HT.out.lay hbW2).ok _ HSM.out).1
        simp only at hst1
        have hkn : kk < sn := by have h1 := (List.getElem?_eq_some_iff.1 HTN.out).1; have h2 := hst1.ilen; omega
        obtain ⟨eb, eo, z1, rfl, heb, hz1, e0⟩ := hst1.int_ hkn
        obtain rfl : z1 = TU := Option.some.inj (hz1.symm.trans HTN.out)
        have hq9n : q9 < n := by have := HQ9.out; omega
        have hkki : (kk : Int) < (sn : Int) := by omega
        have hq9i : (q9 : Int) < (n : Int) := by omega
        have htq := htu2.cell (show q9 < l.length by rw [HN.out]; exact hq9n)
        have htf := htu2.frozen q9
        have a0 := hcb2.cell 0
        have a6 := hsB.cell 6
        have ak := hkb2.cell 0
        have HI2 := Lib.hid hi2
        have HT52 := Lib.hid ht52
        have HTB2 := Lib.hid htb2
        have HKB2 := Lib.hid hkb2
        have HTU2 := Lib.hid htu2
        have HHR := Lib.hid hrow
        clear hi2 ht52 htb2 hkb2 htu2 hrow hst1 hz1 hcb2 hsB t2 hnt hnm
        gi_wp2_with fail
        obtain ⟨W0, hW0⟩ : ∃ W0, W0 = W2.drewN 1 := ⟨_, rfl⟩
        have m0 : W0.cell? ⟨w.heap.size + 1, 0, none⟩ = some (.slice (some ⟨w6.heap.size, 0, none⟩) n n) := by rw [hW0]; exact a0
        have m1 : W0.cell? ⟨W.heap.size, 6, none⟩ = some (.slice (some ⟨eb, eo, none⟩) sn sc) := by rw [hW0]; exact a6
        have m2 : W0.cell? ⟨w5.heap.size, 0, none⟩ = some (.int .i64 (kk)) := by rw [hW0]; exact ak
        have m3 : W0.cell? ⟨eb, eo + kk, none⟩ = some (.int .i64 (z1)) := by rw [hW0]; exact e0
        have mo : W0.cell? ⟨w6.heap.size, q9, none⟩ = some (tuF m day pos l k0 j q9) := by rw [hW0]; exact htq
        have mf : W0.frozen? ⟨w6.heap.size, q9, none⟩ = false := by rw [hW0]; exact htf
        refine Fx.regionIn (fun f w' => (f 9 = false → w' = W0) ∧ (f 9 = true → w' = W0.setCell ⟨w6.heap.size, q9, none⟩ (.int .i64 (z1)))) (by kernel_rfl) (by kernel_rfl) (by kernel_rfl) ?_ ?_
        · intro f hf0
          exact ⟨fun _ => hW0.symm, fun h => by rw [hf0 9] at h; cases h⟩
        have HW0 := Lib.hid hW0
        clear hW0
        repeat (first
          | (refine Fx.skip_ (by rfl) (fun f w h => h) ?_; simp only [Act.put, List.setIfInBounds_toArray, List.set_cons_zero, List.set_cons_succ])
          | (refine Fx.val_ ?_ (by rfl) ?_ (fun f w h => h) ?_
             rotate_left
             · intro f w' hD hk
               obtain ⟨jw, jr⟩ := id hD
               have jw := jw (hk.2.1 9 (by kernel_rfl))
               have q0 : w'.cell? ⟨w.heap.size + 1, 0, none⟩ = some (.slice (some ⟨w6.heap.size, 0, none⟩) n n) := by rw [jw]; exact m0
               have q1 : w'.cell? ⟨W.heap.size, 6, none⟩ = some (.slice (some ⟨eb, eo, none⟩) sn sc) := by rw [jw]; exact m1
               have q2 : w'.cell? ⟨w5.heap.size, 0, none⟩ = some (.int .i64 (kk)) := by rw [jw]; exact m2
               have q3 : w'.cell? ⟨eb, eo + kk, none⟩ = some (.int .i64 (z1)) := by rw [jw]; exact m3
               have qo : w'.cell? ⟨w6.heap.size, q9, none⟩ = some (tuF m day pos l k0 j q9) := by rw [jw]; exact mo
               clear hk hD jw jr
               go_simp
               try rfl
             simp only [Act.put, List.setIfInBounds_toArray, List.set_cons_zero, List.set_cons_succ]))
        refine Fx.store_ (fun w' => w'.setCell ⟨w6.heap.size, q9, none⟩ (.int .i64 (z1))) (by rfl) ?_ ?_ ?_
        · intro f w' hD hk
          obtain ⟨jw, jr⟩ := id hD
          have jw := jw hk.1
          have q0 : w'.cell? ⟨w6.heap.size, q9, none⟩ = some (tuF m day pos l k0 j q9) := by rw [jw]; exact mo
          have q1 : w'.frozen? ⟨w6.heap.size, q9, none⟩ = false := by rw [jw]; exact mf
          clear hk hD jw jr
          go_simp
        · intro f w' hD hk
          obtain ⟨jw, jr⟩ := id hD
          have jw := jw hk.1
          exact ⟨fun h => by simp [Fx.add] at h, fun _ => by rw [jw]⟩
        simp only [Act.put, List.setIfInBounds_toArray, List.set_cons_zero, List.set_cons_succ]
        refine Fx.nil_ ?_
        intro f W3 hall hD
        have hwn := hD.2 (hall 9 (by simp))
        rw [HW0.out] at hwn
        clear hall hD HW0 mo mf m0 m1 m2 m3
        have ht23 : Tch (fun g => g = w6.heap.size) W2 W3 := by rw [hwn]; exact ((Tch.refl (fun g => g = w6.heap.size) W2).drewN 1).setCell (p := ⟨w6.heap.size, q9, none⟩) (.inl rfl) _
        have htu3 : RB W3 w6.heap.size 3 l.length (tuF m day pos l k0 (j + 1)) := by
          rw [hwn]
          refine (RB.set_ (show RB (W2.drewN 1) w6.heap.size 3 l.length (tuF m day pos l k0 j) from HTU2.out) q9 (.int .i64 z1)).congr fun i hi => ?_
          rw [← HTU9.out]
          exact tuF_step (by rw [HN.out]; exact HQ9.out) i
        have htb3 := ht23.blk HTB2.out (show ¬ w2.heap.size = w6.heap.size by omega)
        have hkb3 := ht23.blk HKB2.out (show ¬ w5.heap.size = w6.heap.size by omega)
        have ht53 : Tch (fun g => g = w.heap.size + 1) w5 W3 := HT52.out.then_ ht23 (fun i h1 (h2 : i = w6.heap.size) => absurd h1 (by omega))
        have hrow3 := (HC5.out.came.tch ht53 (fun q h1 h2 e => by have e : q = w.heap.size + 1 := e; omega)).at_
        obtain ⟨cbk, co, r, hXq, hcbk, hr, c0, hrr⟩ := hrow3.at_ hq9n
        have hrx : r.xs = cameL m day pos l q9 := by
          have h1 := congrArg (fun z => z[q9]?) HC5.out.cx
          simp only [List.getElem?_map, hr, Option.map_some, List.getElem?_range hq9n] at h1
          exact Option.some.inj h1
        obtain ⟨rA, rn, rc, rx⟩ := r
        simp only at hrx hrr c0
        subst hrx
        have hkr : kk < rn := by have h1 := (List.getElem?_eq_some_iff.1 HCMA.out).1; have h2 := hrr.2.2.ilen; omega
        obtain ⟨fb, fo, z2, hrA, hfb, hz2, f0⟩ := hrr.2.2.int_ hkr
        obtain rfl : z2 = (k2 : Int) := Option.some.inj (hz2.symm.trans HCMA.out)
        subst hrA
        have hkri : (kk : Int) < (rn : Int) := by omega
        have bt := htb3.cell 0
        rw [hXq] at bt
        have bk := hkb3.cell 0
        have bf := hkb3.frozen 0
        have HT23 := Lib.hid ht23
        have HTU3 := Lib.hid htu3
        have HKB3 := Lib.hid hkb3
        clear hwn ht23 htu3 htb3 hkb3 ht53 hrow3 hr hrr hz2 a0 a6 ak e0 htq htf hXq
        gi_wp2_with fail
        obtain ⟨W0, hW0⟩ : ∃ W0, W0 = W3.drewN 1 := ⟨_, rfl⟩
        have m0 : W0.cell? ⟨w2.heap.size, 0, none⟩ = some (.slice (some ⟨cbk, co, none⟩) n cq) := by rw [hW0]; exact bt
        have m1 : W0.cell? ⟨cbk, co + q9, none⟩ = some (.slice (some ⟨fb, fo, none⟩) rn rc) := by rw [hW0]; exact c0
        have m2 : W0.cell? ⟨fb, fo + kk, none⟩ = some (.int .i64 ((k2 : Int))) := by rw [hW0]; exact f0
        have mo : W0.cell? ⟨w5.heap.size, 0, none⟩ = some (.int .i64 (kk)) := by rw [hW0]; exact bk
        have mf : W0.frozen? ⟨w5.heap.size, 0, none⟩ = false := by rw [hW0]; exact bf
        refine Fx.regionIn (fun f w' => (f 7 = false → w' = W0) ∧ (f 7 = true → w' = W0.setCell ⟨w5.heap.size, 0, none⟩ (.int .i64 ((k2 : Int))))) (by kernel_rfl) (by kernel_rfl) (by kernel_rfl) ?_ ?_
        · intro f hf0
          exact ⟨fun _ => hW0.symm, fun h => by rw [hf0 7] at h; cases h⟩
        have HW0 := Lib.hid hW0
        clear hW0
        repeat (first
          | (refine Fx.skip_ (by rfl) (fun f w h => h) ?_; simp only [Act.put, List.setIfInBounds_toArray, List.set_cons_zero, List.set_cons_succ])
          | (refine Fx.val_ ?_ (by rfl) ?_ (fun f w h => h) ?_
             rotate_left
             · intro f w' hD hk
               obtain ⟨jw, jr⟩ := id hD
               have jw := jw (hk.2.1 7 (by kernel_rfl))
               have q0 : w'.cell? ⟨w2.heap.size, 0, none⟩ = some (.slice (some ⟨cbk, co, none⟩) n cq) := by rw [jw]; exact m0
               have q1 : w'.cell? ⟨cbk, co + q9, none⟩ = some (.slice (some ⟨fb, fo, none⟩) rn rc) := by rw [jw]; exact m1
               have q2 : w'.cell? ⟨fb, fo + kk, none⟩ = some (.int .i64 ((k2 : Int))) := by rw [jw]; exact m2
               have qo : w'.cell? ⟨w5.heap.size, 0, none⟩ = some (.int .i64 (kk)) := by rw [jw]; exact mo
               clear hk hD jw jr
               go_simp
               try rfl
             simp only [Act.put, List.setIfInBounds_toArray, List.set_cons_zero, List.set_cons_succ]))
        refine Fx.store_ (fun w' => w'.setCell ⟨w5.heap.size, 0, none⟩ (.int .i64 ((k2 : Int)))) (by rfl) ?_ ?_ ?_
        · intro f w' hD hk
          obtain ⟨jw, jr⟩ := id hD
          have jw := jw hk.1
          have q0 : w'.cell? ⟨w5.heap.size, 0, none⟩ = some (.int .i64 (kk)) := by rw [jw]; exact mo
          have q1 : w'.frozen? ⟨w5.heap.size, 0, none⟩ = false := by rw [jw]; exact mf
          clear hk hD jw jr
          go_simp
        · intro f w' hD hk
          obtain ⟨jw, jr⟩ := id hD
          have jw := jw hk.1
          exact ⟨fun h => by simp [Fx.add] at h, fun _ => by rw [jw]⟩
        simp only [Act.put, List.setIfInBounds_toArray, List.set_cons_zero, List.set_cons_succ]
        refine Fx.nil_ ?_
        intro f W4 hall hD
        have hwn := hD.2 (hall 7 (by simp))
        rw [HW0.out] at hwn
        clear hall hD HW0 mo mf m0 m1 m2
        have ht34 : Tch (fun g => g = w5.heap.size) W3 W4 := by rw [hwn]; exact ((Tch.refl (fun g => g = w5.heap.size) W3).drewN 1).setCell (p := ⟨w5.heap.size, 0, none⟩) (.inl rfl) _
        have hkb4 : Blk W4 w5.heap.size 3 #[.int .i64 (k2 : Int)] := by
          rw [hwn]
          have h := (HKB3.out.drewN 1).set_ 0 (.int .i64 (k2 : Int))
          simpa only [List.setIfInBounds_toArray, List.set_cons_zero] using h
        have ht24 : Tch (fun g => g = w5.heap.size ∨ g = w6.heap.size) W2 W4 := (HT23.out.mono (fun _ _ h => .inr h)).trans (ht34.mono (fun _ _ h => .inl h))
        refine ⟨ht24.mono (fun i _ h => by have h : i = w5.heap.size ∨ i = w6.heap.size := h; show i < w8.heap.size; omega), HI2.out.tch.trans ht24, ?_, ht34.rb HTU3.out (show ¬ w6.heap.size = w5.heap.size by omega)⟩
        rw [HK2.out]
        exact hkb4
      case hdone =>
        intro D W hD hi hK
        have ht8 := hi.tch
        have hnw : ¬ (w.heap.size = w5.heap.size ∨ w.heap.size = w6.heap.size) := by omega
        have hnc : ¬ (w.heap.size + 1 = w5.heap.size ∨ w.heap.size + 1 = w6.heap.size) := by omega
        have hr0 := ht8.blk K0_8.out hnw
        have hc0 := ht8.blk K1_8.out hnc
        have q0 := hr0.cell 0
        have q1 := hr0.cell 1
        have p0 := hr0.frozen 0
        have p1 := hr0.frozen 1
        have r0 := hc0.cell 0
        have r1 := hc0.cell 1
        have hb8 : Below w.heap.size w W := HB8.out.trans (ht8.below (B := w.heap.size) (fun q hq => by have hq : q = w5.heap.size ∨ q = w6.heap.size := hq; omega) (by omega))
        go_wp2
        generalize hw9 : World.setCell (World.setCell _ _ _) _ _ = w9
        have ht9 : Tch (fun g => g = w.heap.size) W w9 := by rw [← hw9]; exact Tch.setCell (p := ⟨w.heap.size, 1, none⟩) (Tch.setCell (p := ⟨w.heap.size, 0, none⟩) (Tch.refl (fun g => g = w.heap.size) W) (.inl rfl) _) (.inl rfl) _
        have hr9 : Blk w9 w.heap.size 43 #[.slice (some ⟨w6.heap.size, 0, none⟩) n n, .slice Xp n cp] := by
          rw [← hw9]
          have := (hr0.set_ 0 (.slice (some ⟨w6.heap.size, 0, none⟩) n n)).set_ 1 (.slice Xp n cp)
          simpa only [List.setIfInBounds_toArray, List.set_cons_zero, List.set_cons_succ] using this
        have hDW := (Array.getElem?_eq_some_iff.1 hK).1
        have hK9 : w9.heap[D]? = some (.deferred (some [])) := (ht9.block D hDW (by show ¬ D = w.heap.size; omega)).trans hK
        refine Fx.leaves_marks [D] w9 ⟨by simp, fun E hE => ⟨Nat.zero_le _, by obtain rfl : E = D := (by simpa using hE); exact hK9⟩⟩ fun w' q1 q2 q3 q4 q5 => ?_
        have hs89 := ht8.size
        have hs9 := ht9.size
        have ht' : Tch (fun g => g = D) w9 w' := ⟨q2, q3, q4, by omega, fun i hi hx => q1 i hi (fun E hE => by obtain rfl : E = D := (by simpa using hE); exact hx)⟩
        have hr' := ht'.blk hr9 (show ¬ w.heap.size = D by omega)
        have a0 := hr'.cell 0
        have a1 := hr'.cell 1
        have hrl := hr'.lt
        have hb' : Below w.heap.size w w' := hb8.trans (((ht9.mono (Y := fun g => w.heap.size ≤ g) (fun i _ (e : i = w.heap.size) => by show w.heap.size ≤ i; omega)).trans (ht'.mono (Y := fun g => w.heap.size ≤ g) (fun i _ (e : i = D) => by show w.heap.size ≤ i; omega))).below (B := w.heap.size) (fun q h => h) (by omega))
        refine ⟨.tuple #[.agg #[.slice (some ⟨w6.heap.size, 0, none⟩) n n, .slice Xp n cp], .int .i64 v], by simp [results, Try.results21, go_sem, a0, a1, hrl], ?_⟩
        have ht5 : Tch (fun g => g = w.heap.size + 1 ∨ g = w.heap.size) w5 w' := by
          refine (((HT58.out.mono (Y := fun g => g = w.heap.size + 1 ∨ g = w.heap.size) (fun _ _ h => .inl h)).then_ ht8 (fun i h1 h2 => absurd h1 (by have h2 : i = w5.heap.size ∨ i = w6.heap.size := h2; omega))).trans (ht9.mono (fun _ _ h => .inr h))).then_ ht' (fun i h1 (h2 : i = D) => absurd h1 (by omega))
        have hpo := (HC5.out.pots.tch ht5 (fun q h1 h2 e => by have e : q = w.heap.size + 1 ∨ q = w.heap.size := e; omega)).mono (show w.heap.size ≤ w3.heap.size by omega)
        have htu : RB w' w6.heap.size 3 l.length (tuF m day pos l k0 l.length) := by
          have h0 := hi.tb
          rw [show tuF m day pos l k0 n = tuF m day pos l k0 l.length by rw [HN.out]] at h0
          exact ht'.rb (ht9.rb h0 (show ¬ w6.heap.size = w.heap.size by omega)) (show ¬ w6.heap.size = D by omega)
        have hown := own_of_rb htu (base := w.heap.size) (by omega) (by rw [HN.out]; unfold maxLen; omega)
        rw [tuF_all] at hown
        refine ⟨some ⟨w6.heap.size, 0, none⟩, l.length, Xp, cp, tsP, turnsC m day pos l k0, ?_, hb', hown, ?_, ?_, turnsC_ok HKI.out HNE.out, turnsC_cost HKI.out HNE.out⟩
        · rw [HN.out, HVV.out]
        · rw [HN.out]; exact hpo
        · rw [HC5.out.px]; unfold potL; rw [HN.out]
end Go.Proofs.Ytclnffpfbngjoaa

end
