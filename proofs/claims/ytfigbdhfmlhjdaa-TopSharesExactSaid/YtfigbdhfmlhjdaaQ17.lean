import Derived.Test.YtfigbdhfmlhjdaaQ11
import Derived.Test.YtfigbdhfmlhjdaaQ14
import Derived.Test.YtfigbdhfmlhjdaaQ16
import Derived.Test.YtfigbdhfmlhjdaaQ7
import Derived.Test.YtfigbdhfmlhjdaaQ8

section
/- The contract of what the points below both sides of each rocker carry. -/
namespace Go.Proofs.Ytfigbdhfmlhjdaa
open Go.RowKit Go.Shelf Go.Maps

attribute [local go_sem] Oper.semAt_some

theorem pos_step {ps : List ByteArray} {xs : List Int} {k : Nat} {s : ByteArray} {z : Int} (hnd : ps.Nodup) (hs : ps[k]? = some s) (hz : xs[k]? = some z) :
    (fun u => if u = s then some (Value.int .i64 z) else (posOf (ps.take k) u).map fun i => .int .i64 (xs.getD i 0)) = fun u => (posOf (ps.take (k + 1)) u).map fun i => .int .i64 (xs.getD i 0) := by
  funext u
  have hk : k < ps.length := (List.getElem?_eq_some_iff.1 hs).1
  have e : ps.take (k + 1) = ps.take k ++ [s] := by rw [List.take_add_one, hs]; rfl
  have hl : (ps.take k).length = k := by rw [List.length_take]; omega
  by_cases hu : u = s
  · subst hu
    have hno : posOf (ps.take k) u = none := by
      cases hp : posOf (ps.take k) u with
      | none => rfl
      | some i =>
        obtain ⟨h1, -⟩ := posOf_some hp
        have hik : i < k := by have := (List.getElem?_eq_some_iff.1 h1).1; omega
        rw [List.getElem?_take, if_pos hik] at h1
        obtain ⟨g1, g2⟩ := List.getElem?_eq_some_iff.1 h1
        obtain ⟨g3, g4⟩ := List.getElem?_eq_some_iff.1 hs
        have := (List.pairwise_iff_getElem.1 hnd) i k g1 g3 hik
        rw [g2, g4] at this
        exact absurd rfl this
    have h2 : posOf (ps.take (k + 1)) u = some k := by
      unfold posOf at hno ⊢
      rw [e, List.findIdx?_append, hno]
      simp [hl]
    rw [if_pos rfl, h2]
    simp [List.getD, hz]
  · rw [if_neg hu]
    have h2 : posOf (ps.take (k + 1)) u = posOf (ps.take k) u := by
      unfold posOf
      rw [e, List.findIdx?_append]
      have : List.findIdx? (fun x => decide (x = u)) [s] = none := by
        have : ¬ s = u := fun e => hu e.symm
        simp [this]
      rw [this]
      cases List.findIdx? (fun x => decide (x = u)) (ps.take k) <;> simp
    rw [h2]

theorem own_addr {w : World} {base n size c : Nat} {A : Option Addr} {e : TypeId} {xs : List Value} (h : w.ownsRow base e size (.slice A n c) n xs) : ∀ b o, A = some ⟨b, o, none⟩ → base ≤ b := by
  intro b o hA
  rcases h.2 with ⟨h1, -⟩ | ⟨g, cap, cur, h1, hb, _⟩
  · injection h1 with h1 _ _; rw [hA] at h1; cases h1
  · injection h1 with h1 _ _; rw [hA] at h1; injection h1 with h1; injection h1 with h1 _ _; omega

def posM (ps : List ByteArray) (xs : List Int) (k : Nat) (u : ByteArray) : Option Value := (posOf (ps.take k) u).map fun i => .int .i64 (xs.getD i 0)

/-- What both sides of the rockers carry. -/
def sidesOf (l : List Rk) (ps : List ByteArray) (xs : List Int) : List (Int × Int) := l.map fun r => (underI l ps xs r.left, underI l ps xs r.right)
/-- The same up to a rocker, behind which nothing has been added up. -/
def upto_ (l : List Rk) (ps : List ByteArray) (xs : List Int) (k : Nat) : List (Int × Int) := (sidesOf l ps xs).take k ++ List.replicate (l.length - k) (0, 0)

theorem cells2_set0 : ∀ (L : List (Int × Int)) (k : Nat) (a b a' : Int), (cells2 (L.set k (a, b))).set (k * 2) (.int .i64 a') = cells2 (L.set k (a', b))
  | [], k, a, b, a' => by simp [cells2]
  | p :: L, 0, a, b, a' => rfl
  | p :: L, k + 1, a, b, a' => by
    have e : ∀ M : List (Int × Int), cells2 (p :: M) = .int .i64 p.1 :: .int .i64 p.2 :: cells2 M := fun M => rfl
    rw [List.set_cons_succ, List.set_cons_succ, e, e, show (k + 1) * 2 = k * 2 + 1 + 1 by omega]
    simp only [List.set_cons_succ]
    rw [cells2_set0]
theorem cells2_set1 : ∀ (L : List (Int × Int)) (k : Nat) (a b b' : Int), (cells2 (L.set k (a, b))).set (k * 2 + 1) (.int .i64 b') = cells2 (L.set k (a, b'))
  | [], k, a, b, b' => by simp [cells2]
  | p :: L, 0, a, b, b' => rfl
  | p :: L, k + 1, a, b, b' => by
    have e : ∀ M : List (Int × Int), cells2 (p :: M) = .int .i64 p.1 :: .int .i64 p.2 :: cells2 M := fun M => rfl
    rw [List.set_cons_succ, List.set_cons_succ, e, e, show (k + 1) * 2 + 1 = k * 2 + 1 + 1 + 1 by omega]
    simp only [List.set_cons_succ]
    rw [cells2_set1]
theorem cells2_at {L : List (Int × Int)} {k : Nat} (hk : k < L.length) (c : Int × Int) : (cells2 (L.set k c))[k * 2]? = some (.int .i64 c.1) ∧ (cells2 (L.set k c))[k * 2 + 1]? = some (.int .i64 c.2) := by
  have := cells2_get (L.set k c) k (by simpa using hk)
  simpa using this
theorem posM_get {ps : List ByteArray} {xs : List Int} (s : ByteArray) : (posM ps xs ps.length s).getD (.int .i64 0) = .int .i64 (loadOf ps xs s) := by
  unfold posM loadOf
  rw [List.take_length]
  cases posOf ps s <;> rfl

theorem upto_succ' {l : List Rk} {ps : List ByteArray} {xs : List Int} {k : Nat} {r : Rk} {S0 S1 : Int} (hr : l[k]? = some r) (h0 : underI l ps xs r.left = S0) (h1 : underI l ps xs r.right = S1) : (upto_ l ps xs k).set k (S0, S1) = upto_ l ps xs (k + 1) := by
  have hk : k < l.length := (List.getElem?_eq_some_iff.1 hr).1
  have hs : (sidesOf l ps xs)[k]? = some (S0, S1) := by unfold sidesOf; rw [List.getElem?_map, hr, Option.map_some, h0, h1]
  have hl : ((sidesOf l ps xs).take k).length = k := by rw [List.length_take]; unfold sidesOf; rw [List.length_map]; omega
  unfold upto_
  rw [List.set_append_right _ _ (by omega), hl, Nat.sub_self, show l.length - k = (l.length - (k + 1)) + 1 by omega, List.replicate_succ, List.set_cons_zero, List.take_add_one, hs]
  simp
theorem upto_at {l : List Rk} {ps : List ByteArray} {xs : List Int} {k : Nat} (hk : k < l.length) : (upto_ l ps xs k).set k (0, 0) = upto_ l ps xs k := by
  have hl : ((sidesOf l ps xs).take k).length = k := by rw [List.length_take]; unfold sidesOf; rw [List.length_map]; omega
  unfold upto_
  rw [List.set_append_right _ _ (by omega), hl, Nat.sub_self, show l.length - k = (l.length - (k + 1)) + 1 by omega, List.replicate_succ, List.set_cons_zero]
theorem upto_all (l : List Rk) (ps : List ByteArray) (xs : List Int) : upto_ l ps xs l.length = sidesOf l ps xs := by
  unfold upto_
  rw [Nat.sub_self, List.take_of_length_le (by unfold sidesOf; simp)]
  simp

theorem exec_put {P : Program} {o : Oper} {a : Act} {w w' : World} (m x v : Operand) (t : TypeId) (ho : o.op = .mapUpdate t m x v) (hrun : (Instr.mapUpdate t (a.eval m) (a.eval x) (a.eval v)).run P w = .ok () w') : (execOp a.eval o).run P w = .ok .skip w' := by
  unfold execOp
  simp [ho, hrun, Result.andThen]


def SumsPost (l : List Rk) (ps : List ByteArray) (xs : List Int) (n : Nat) (w : World) (e : Ending) (w' : World) : Prop :=
  Below w.heap.size w w' ∧ ∃ A' c', e = .returned (.slice A' n c') ∧ Reads w' w'.heap.size 2 A' n (cells2 (sidesOf l ps xs)) ∧ ∀ b o, A' = some ⟨b, o, none⟩ → w.heap.size ≤ b

theorem made_arr (m : Nat) : madeCells #[.int .i64 0, .int .i64 0] (m * 2) = (cells2 (List.replicate m (0, 0))).toArray := made_fracs m
theorem info_arr2 : (Try.prog.info? 50).map (fun i => (i.zero, i.size, i.bytes)) = some (some (.agg #[.int .i64 0, .int .i64 0]), 2, 16) := by kernel_rfl

set_option maxRecDepth 100000 in
set_option maxHeartbeats 4000000 in
theorem sums_any (l : List Rk) (hfits : ∀ r ∈ l, r.Fits) (h0 : openErr l = 0) (A : Option Addr) (n c tb mb : Nat) (hn : n ≤ 1000) (ps : List ByteArray) (hp : ptsOf l = some ps) (hps : ps.length ≤ 1000000) (B : Option Addr) (m cb : Nat) (xs : List Int) (hm : m = ps.length) (hxs : ∀ z ∈ xs, 0 ≤ z ∧ z ≤ 1000000)
    (hbl : ∀ s, (below_ l s).length ≤ 1000000) (w : World) (hT : TreeAt l A n c tb mb (topOf l : Int) w.heap.size w) (hy : Reads w w.heap.size 1 B m (xs.map (.int .i64))) :
    Calls Try.prog 44 #[.pointer (some ⟨tb, 0, none⟩), .slice B m cb] w (SumsPost l ps xs n w) := by
  obtain ⟨i0, hi0, hz0, hz1, hz2⟩ := info_parts info_arr2
  have hmk : ∀ w, (Instr.makeSlice 23 (.int .i64 (n : Int)) (.int .i64 (n : Int))).run Try.prog w = .ok (.slice (some ⟨w.heap.size, 0, none⟩) n n) (w.alloc (.cells (cells2 (List.replicate n (0, 0))).toArray 50)) := fun w => by
    have := run_make_rowN (P := Try.prog) 23 50 i0 (.agg #[.int .i64 0, .int .i64 0]) Try.underlying23 hi0 hz0 .i64 .i64 n n (Nat.le_refl _) (by rw [hz2]; omega) (by omega) w
    rw [this, hz1]
    have e := made_arr n
    rw [← e]
    rfl
  have hmm := @run_makeMap Try.prog
  obtain ⟨z0, -⟩ := open_zero h0
  have htop := Lib.hid (topOf_lt z0)
  have hln := hT.reads.len5
  have hnd := Lib.hid (points_nodup h0 hp)
  have hxl : xs.length = m := by have := hy.1; simpa using this
  have HXL := Lib.hid hxl
  have H0 := Lib.hid h0
  have HP := Lib.hid hp
  have HT := Lib.hid hT
  have HY := Lib.hid hy
  have HM := Lib.hid hm
  have HLN := Lib.hid hln
  have ht0 : w.cell? ⟨tb, 0, none⟩ = some (.slice A n c) := hT.tree.cell 0
  have htlt := hT.tlt
  clear hi0 hz0 hz1 hz2 z0 h0 hp hT hy hxl hln hm
  refine callsIn_wide.1 (callsIn_of_wp_marks (n := 10) Try.func44 rfl trivial (wpIn_wide.2 ?_) rfl)
  simp only [Try.ntmps44, List.size_toArray, List.length_cons, List.length_nil, Nat.reduceAdd, Nat.reduceSub, Array.replicate_succ, Array.replicate_zero, List.push_toArray, List.append_toArray, List.nil_append, List.cons_append]
  go_wp2_with fail
  clear hmm
  have hb0 : Below w.heap.size w ((w.alloc (.map #[] 0)).alloc (.cells #[.map (some w.heap.size)] 98)) := ((Below.refl _ w).alloc (Nat.le_refl _) _).alloc (by simp) _
  refine (points_any l hfits A n c tb mb _ (by omega) ((HT.out.below hb0).more hb0.size) htop.out ps HP.out hps).mono ?_
  rintro e w1 ⟨hb1, A1, c1, rfl, ho⟩
  obtain ⟨W, hW⟩ : ∃ W, W = (w.alloc (.map #[] 0)).alloc (.cells #[.map (some w.heap.size)] 98) := ⟨_, rfl⟩
  have hsW : W.heap.size = w.heap.size + 2 := by rw [hW]; simp
  have hmW : MapIs Try.prog 9 W w.heap.size 0 (posM ps xs 0) := by
    rw [hW]
    have := (MapIs.made_ (W := w) rfl Try.prog 9).alloc (.cells #[.map (some w.heap.size)] 98)
    have e : posM ps xs 0 = fun _ => none := by funext u; unfold posM posOf; simp
    rw [e]; exact this
  have hkW : Blk W (w.heap.size + 1) 98 #[.map (some w.heap.size)] := by rw [hW]; exact Blk.at_ _ (by simp) _ _
  rw [← hW] at hb0 hb1 ho
  have hb01 : Below w.heap.size w w1 := hb0.trans (hb1.mono (by omega))
  have HB1 := Lib.hid hb01
  have HM1 := Lib.hid (hmW.below hb1 (by omega))
  have HK1 := Lib.hid (hkW.below hb1 (by omega))
  have hpr := own_reads2 ho
  have HPA : Hid (∀ b o, A1 = some ⟨b, o, none⟩ → w.heap.size + 2 ≤ b) := fun b o h => by have := own_addr ho b o h; omega
  have HPR := Lib.hid hpr
  have hs1 : w.heap.size + 2 ≤ w1.heap.size := by have := hb1.size; omega
  have hpm : ps.length = m := HM.out.symm
  have HPM := Lib.hid hpm
  have hpb : ∀ x ∈ ps, x.size ≤ maxLen := by
    have hp := HP.out
    obtain ⟨r, hr, hnm⟩ := topName_get htop.out
    unfold ptsOf at hp
    rw [hnm] at hp
    exact pts_small hfits _ _ _ (hfits r (List.mem_of_getElem? hr)).name hp
  have HPB := Lib.hid hpb
  clear ho hb1 hb0 hmW hkW hW hsW hb01 hpb hpr
  rw [HPM.out] at HPR hps
  rw [hpm]
  clear hpm
  go_wp2
  go_loopw [18] (fun i wr => ∃ k : Nat, k ≤ m ∧ i = .int .i64 k ∧ Below w.heap.size w wr ∧ w1.heap.size ≤ wr.heap.size ∧ MapIs Try.prog 9 wr w.heap.size k (posM ps xs k) ∧ Blk wr (w.heap.size + 1) 98 #[.map (some w.heap.size)] ∧ w1.grownBy wr (some w.heap.size)) (fun i _ => m - (intOf i).toNat)
  case atStart => exact ⟨0, by omega, rfl, HB1.out, Nat.le_refl _, HM1.out, HK1.out, World.grownBy.refl _ _⟩
  case round =>
    obtain ⟨k, hk, rfl, hb, hsz, hmap, hkb, hg⟩ := hrel
    have HB := Lib.hid hb
    have HMAP := Lib.hid hmap
    have HKB := Lib.hid hkb
    have HG := Lib.hid hg
    clear hb hmap hkb hg
    by_cases hlt : k < m
    · obtain ⟨qb, qo, s, rfl, hqb, hs, d0⟩ := HPR.out.str hlt
      obtain ⟨zb, zo, u, rfl, hzb, hu, c0⟩ := HY.out.at_ hlt
      obtain ⟨z, hz, rfl⟩ : ∃ z, xs[k]? = some z ∧ .int .i64 z = u := by
        rw [List.getElem?_map] at hu
        cases h : xs[k]? with
        | none => rw [h] at hu; cases hu
        | some z => rw [h] at hu; exact ⟨z, rfl, Option.some.inj hu⟩
      have hsl := HPB.out s (List.mem_of_getElem? hs)
      have HSN := Lib.hid hs
      have HZN := Lib.hid hz
      have hq2 := HPA.out qb qo rfl
      have d0' : wr.cell? ⟨qb, qo + k, none⟩ = some (.string s) := (World.cell?_of_block (HG.out.block qb hqb (fun e => by have := Option.some.inj e; omega))).trans d0
      have c0' : wr.cell? ⟨zb, zo + k, none⟩ = some (.int .i64 z) := (HB.out.cell (p := ⟨zb, _, none⟩) hzb).trans c0
      clear hu hs hz c0 d0
      obtain ⟨W0, hW0⟩ : ∃ W0, W0 = wr.drewN 1 := ⟨_, rfl⟩
      obtain ⟨W2, hrun, hm2, hg2⟩ := (show MapIs Try.prog 9 W0 w.heap.size k (posM ps xs k) by rw [hW0]; exact HMAP.out.drewN 1).put Try.underlying9 Try.underlying98 s hsl (by unfold maxLen; omega) (.int .i64 z)
      have HRUN := Lib.hid hrun
      have d1 : W0.cell? ⟨zb, zo + k, none⟩ = some (.int .i64 z) := by rw [hW0]; exact c0'
      have d2 : W0.cell? ⟨w.heap.size + 1, 0, none⟩ = some (.map (some w.heap.size)) := by rw [hW0]; exact HKB.out.cell 0
      have HM2 : Hid (MapIs Try.prog 9 W2 w.heap.size (k + 1) (posM ps xs (k + 1))) := by
        have e := pos_step (xs := xs) hnd.out HSN.out HZN.out
        show MapIs _ _ _ _ _ _
        unfold posM at hm2 ⊢
        rw [← e]
        exact hm2
      have hbs := HB.out.size
      have hsW0 : W0.heap.size = wr.heap.size := by rw [hW0]; rfl
      have HB2 : Hid (Below w.heap.size w W2) := (show Below w.heap.size w W0 by rw [hW0]; exact below_drewN HB.out 1).grown hg2 (by omega) (fun g hg => by have := Option.some.inj hg; omega)
      have hsz2 : w1.heap.size ≤ W2.heap.size := by have := hg2.size; omega
      have HKB2 : Hid (Blk W2 (w.heap.size + 1) 98 #[.map (some w.heap.size)]) := (show Blk W0 _ _ _ by rw [hW0]; exact HKB.out.drewN 1).grown hg2 (fun e => by have := Option.some.inj e; omega)
      have HG2 : Hid (w1.grownBy W2 (some w.heap.size)) := grown_by_trans (show w1.grownBy W0 (some w.heap.size) by rw [hW0]; exact only_drewN HG.out 1) hg2
      have hzl : (zb : Nat) < w.heap.size := hzb
      clear hrun hm2 hg2 c0' hbs
      go_wp2
      refine Fx.region (fun f w' => (f 6 = false → w' = W0) ∧ (f 6 = true → w' = W2)) (by kernel_rfl) (by kernel_rfl) ?_ ?_
      · intro f hf0
        exact ⟨fun _ => hW0.symm, fun h => by rw [hf0 6] at h; cases h⟩
      have HW0 := Lib.hid hW0
      clear hW0
      refine Fx.val_ ?_ (by rfl) ?_ (fun f w h => h) ?_
      rotate_left
      · intro f w' hD hk
        obtain ⟨jw, jr⟩ := id hD
        have jw := jw (hk.2.1 6 (by kernel_rfl))
        have q0 : w'.cell? ⟨w.heap.size + 1, 0, none⟩ = some (.map (some w.heap.size)) := by rw [jw]; exact d2
        clear hk hD jw jr
        go_simp
        try rfl
      simp only [Act.put, List.setIfInBounds_toArray, List.set_cons_zero, List.set_cons_succ]
      repeat (first
        | (refine Fx.skip_ (by rfl) (fun f w h => h) ?_; simp only [Act.put, List.setIfInBounds_toArray, List.set_cons_zero, List.set_cons_succ])
        | (refine Fx.val_ ?_ (by rfl) ?_ (fun f w h => h) ?_
           rotate_left
           · intro f w' hD hk
             obtain ⟨jw, jr⟩ := id hD
             clear hk hD jw jr
             go_simp
             try rfl
           simp only [Act.put, List.setIfInBounds_toArray, List.set_cons_zero, List.set_cons_succ]))
      refine Fx.val_ ?_ (by rfl) ?_ (fun f w h => h) ?_
      rotate_left
      · intro f w' hD hk
        obtain ⟨jw, jr⟩ := id hD
        have jw := jw (hk.2.1 6 (by kernel_rfl))
        have q0 : w'.cell? ⟨zb, zo + k, none⟩ = some (.int .i64 z) := by rw [jw]; exact d1
        clear hk hD jw jr
        go_simp
        try rfl
      simp only [Act.put, List.setIfInBounds_toArray, List.set_cons_zero, List.set_cons_succ]
      refine Fx.store_ (fun w' => W2) (by rfl) ?_ ?_ ?_
      · intro f w' hD hk
        obtain ⟨jw, jr⟩ := hD
        have jw := jw hk.1
        subst jw
        exact exec_put (.tmp 23) (.tmp 24) (.tmp 28) _ rfl HRUN.out
      · intro f w' hD hk
        exact ⟨fun h => by simp [Fx.add] at h, fun _ => rfl⟩
      simp only [Act.put, List.setIfInBounds_toArray, List.set_cons_zero, List.set_cons_succ]
      refine Fx.nil_ ?_
      intro f w1 hall hD
      have hf6 := hall 6 (by simp)
      obtain ⟨jw, jr⟩ := hD
      simp only [hf6, if_true] at *
      have jr := jr (by first | rfl | trivial)
      clear jw
      try clear hall
      subst jr
      go_wp2
      go_roundw
      case rel => exact ⟨k + 1, by omega, by go_num, HB2.out, hsz2, HM2.out, HKB2.out, HG2.out⟩
      case measure => simp [intOf]; omega
    · have e0 : wr.cell? ⟨tb, 0, none⟩ = some (.slice A n c) := (HB.out.cell (p := ⟨tb, 0, none⟩) htlt).trans ht0
      have hkm : k = m := by omega
      rw [hkm] at HMAP
      clear hkm
      have hws := HB.out.size
      have htw : tb < wr.heap.size := by omega
      obtain ⟨k0, hk0⟩ : ∃ z, z = k := ⟨_, rfl⟩
      subst hk0
      go_wp2_with fail
      obtain ⟨ob, hob⟩ : ∃ z, z = wr.heap.size := ⟨_, rfl⟩
      obtain ⟨w3, hw3⟩ : ∃ z, z = (wr.alloc (.cells (cells2 (List.replicate n (0, 0))).toArray 50)).alloc (.cells #[.slice (some ⟨wr.heap.size, 0, none⟩) n n] 23) := ⟨_, rfl⟩
      have hs3 : w3.heap.size = ob + 2 := by rw [hw3, hob]; simp
      have k8 : Blk w3 (ob + 1) 23 #[.slice (some ⟨ob, 0, none⟩) n n] := by rw [hw3, hob]; exact Blk.at_ _ (by simp) _ _
      have kz : Blk w3 ob 50 (cells2 (List.replicate n (0, 0))).toArray := by rw [hw3, hob]; exact (Blk.new _ _ _).alloc _
      have hb3 : Below w.heap.size w w3 := by rw [hw3]; exact (HB.out.alloc (by omega) _).alloc (by simp; omega) _
      have hm3 : MapIs Try.prog 9 w3 w.heap.size m (posM ps xs m) := by rw [hw3]; exact (HMAP.out.alloc _).alloc _
      have hk3 : Blk w3 (w.heap.size + 1) 98 #[.map (some w.heap.size)] := by rw [hw3]; exact (HKB.out.alloc _).alloc _
      rw [← hw3, ← hob]
      have HB3 := Lib.hid hb3
      have HM3 := Lib.hid hm3
      have HK3 := Lib.hid hk3
      have K8 := Lib.hid k8
      have KZ := Lib.hid kz
      have HS3 := Lib.hid hs3
      have hob1 : w.heap.size + 2 ≤ ob := by omega
      clear hw3 hb3 hm3 hk3 k8 kz HMAP HKB HB HG HB1 HM1 HK1 hws htw hs1 hsz hob
      refine wp_loop (fun a' w' => ∃ (k : Nat) (Ds : List Nat) (v9 v10 v11 v12 v13 v42 v43 v44 v45 v46 v47 v48 v49 v50 v51 v52 v53 v54 v55 v56 v57 v58 v59 v60 v61 v62 v63 v64 v65 v66 v67 v68 v69 v70 v71 v72 : Value), k ≤ n ∧ Fx.MarksAt (ob + 2) Ds w' ∧ Blk w' ob 50 (cells2 (upto_ l ps xs k)).toArray ∧ w3.grownBy w' (some ob) ∧ a' = { tmps := #[Value.pointer (some ⟨tb, 0, none⟩), Value.slice B m cb, undef, undef, Value.slice none 0 0, Value.pointer (some ⟨w.heap.size + 1, 0, none⟩), u6, u7, Value.pointer (some ⟨ob + 1, 0, none⟩), v9, v10, v11, v12, v13, Value.map (some w.heap.size), Value.pointer (some ⟨tb, 0, none⟩), Value.slice A1 m c1, Value.int .i64 (m : Int), Value.int .i64 (k0 : Int), Value.bool false, u20, u21, u22, u23, u24, u25, u26, u27, u28, u29, Value.pointer (some ⟨tb, 0, none⟩), Value.pointer (some ⟨tb, 0, none⟩), Value.pointer (some ⟨tb, 0, none⟩), Value.slice A n c, Value.int .i64 (n : Int), Value.slice (some ⟨ob, 0, none⟩) n n, Value.pointer (some ⟨tb, 0, none⟩), Value.pointer (some ⟨tb, 0, none⟩), Value.pointer (some ⟨tb, 0, none⟩), Value.slice A n c, Value.int .i64 (n : Int), Value.int .i64 (k : Int), v42, v43, v44, v45, v46, v47, v48, v49, v50, v51, v52, v53, v54, v55, v56, v57, v58, v59, v60, v61, v62, v63, v64, v65, v66, v67, v68, v69, v70, v71, v72, undef], defers := Fx.marks Ds }) (fun a' _ => n - (intOf (a'.tmps.getD 41 undef)).toNat) ?_ ?_
      · refine ⟨0, [], _, _, _, _, _, _, _, _, _, _, _, _, _, _, _, _, _, _, _, _, _, _, _, _, _, _, _, _, _, _, _, _, _, _, _, _, by omega, Fx.MarksAt.nil _ _, ?_, World.grownBy.refl _ _, rfl⟩
        unfold upto_
        rw [HLN.out]
        simpa using KZ.out
      rintro a wq ⟨k, Ds, v9, v10, v11, v12, v13, v42, v43, v44, v45, v46, v47, v48, v49, v50, v51, v52, v53, v54, v55, v56, v57, v58, v59, v60, v61, v62, v63, v64, v65, v66, v67, v68, v69, v70, v71, v72, hk, hmk, hbo, hg, rfl⟩
      have HMK := Lib.hid hmk
      have HBO := Lib.hid hbo
      have HG := Lib.hid hg
      clear hmk hbo hg
      by_cases hlt : k < n
      · obtain ⟨zb, zo, r, rfl, hzb, hr, d0, d1, d2, d3, d4⟩ := HT.out.reads.rk hlt
        have hsq := HG.out.size
        have hkeep : ∀ p : Addr, p.block < w.heap.size → wq.cell? p = w.cell? p := fun p hp => (World.cell?_of_block (HG.out.block p.block (by have := HS3.out; omega) (fun e => by have := Option.some.inj e; omega))).trans (HB3.out.cell hp)
        have e0 : wq.cell? ⟨zb, zo + k * 5, none⟩ = some (.string r.name) := (hkeep _ hzb).trans d0
        have e1 : wq.cell? ⟨zb, zo + k * 5 + 1, none⟩ = some (.string r.left) := (hkeep _ hzb).trans d1
        have e2 : wq.cell? ⟨zb, zo + k * 5 + 2, none⟩ = some (.string r.right) := (hkeep _ hzb).trans d2
        have e3 : wq.cell? ⟨zb, zo + k * 5 + 3, none⟩ = some (.int .i64 r.al) := (hkeep _ hzb).trans d3
        have e4 : wq.cell? ⟨zb, zo + k * 5 + 4, none⟩ = some (.int .i64 r.ar) := (hkeep _ hzb).trans d4
        have HR := Lib.hid hr
        have hfit := hfits r (List.mem_of_getElem? hr)
        have HBQ : Hid (Below w.heap.size w wq) := HB3.out.grown HG.out (by have := HS3.out; omega) (fun g hg => by have := Option.some.inj hg; omega)
        have hul : (upto_ l ps xs k).length = n := by unfold upto_ sidesOf; rw [List.length_append, List.length_take, List.length_map, List.length_replicate, HLN.out]; omega
        have HUL := Lib.hid hul
        obtain ⟨xt0, hx0⟩ := txts_of (pts_small hfits _ _ _ hfit.left (below_pts H0.out r.left))
        obtain ⟨xt1, hx1⟩ := txts_of (pts_small hfits _ _ _ hfit.right (below_pts H0.out r.right))
        have HX0 : Hid (pts l l.length r.left = some (txts xt0)) := by rw [hx0]; exact below_pts H0.out r.left
        have HX1 : Hid (pts l l.length r.right = some (txts xt1)) := by rw [hx1]; exact below_pts H0.out r.right
        have HXT0 := Lib.hid hx0
        have HXT1 := Lib.hid hx1
        obtain ⟨S0, hS0⟩ : ∃ z, underI l ps xs r.left = z := ⟨_, rfl⟩
        obtain ⟨S1, hS1⟩ : ∃ z, underI l ps xs r.right = z := ⟨_, rfl⟩
        have HS0 := Lib.hid hS0
        have HS1 := Lib.hid hS1
        have hobq : ob < wq.heap.size := by have := HS3.out; omega
        have cm8 : Blk wq (ob + 1) 23 #[.slice (some ⟨ob, 0, none⟩) n n] := K8.out.grown HG.out (fun e => by have := Option.some.inj e; omega)
        have cm5 : Blk wq (w.heap.size + 1) 98 #[.map (some w.heap.size)] := HK3.out.grown HG.out (fun e => by have := Option.some.inj e; omega)
        have cmM : MapIs Try.prog 9 wq w.heap.size m (posM ps xs m) := HM3.out.kept HG.out (fun e => by have := Option.some.inj e; omega)
        have C8 := Lib.hid cm8
        have C5 := Lib.hid cm5
        have CM := Lib.hid cmM
        clear hr d0 d1 d2 d3 d4 hkeep hul hx0 hx1 hS0 hS1 cm8 cm5 cmM
        go_wp2_with fail
        have hix0 : ∀ w, (Instr.index 110 (.agg #[.string r.left, .string r.right]) (.int .i64 0)).run Try.prog w = .ok (.string r.left) w := fun w => by kernel_rfl
        have hix1 : ∀ w, (Instr.index 110 (.agg #[.string r.left, .string r.right]) (.int .i64 1)).run Try.prog w = .ok (.string r.right) w := fun w => by kernel_rfl
        refine wp_loop_rounds 3 ?_
        rw [rounds_succ]
        go_wp2_with fail
        -- SIDES
        refine (below_any (some ⟨tb, 0, none⟩) r.left _).mono ?_
        rintro e w4 ⟨rfl, hw4⟩
        have hsz4 : w4.heap.size = wq.heap.size + 2 + 3 := by rw [hw4]; simp []
        have bk4 : Blk w4 (wq.heap.size + 2) 3 #[.int .i64 0] := by rw [hw4]; exact ((Blk.at_ _ (by simp []) _ _).alloc _).alloc _
        have bt4 : Blk w4 (wq.heap.size + 2 + 1) 66 #[.pointer (some ⟨tb, 0, none⟩)] := by rw [hw4]; exact (Blk.at_ _ (by simp []) _ _).alloc _
        have bn4 : Blk w4 (wq.heap.size + 2 + 2) 9 #[.string r.left] := by rw [hw4]; exact Blk.at_ _ (by simp []) _ _
        have hg4 : wq.grownBy w4 (some ob) := by
          rw [hw4]
          repeat' (first | exact World.grownBy.refl _ _ | refine only_alloc ?_ _)
        have c84 : Blk w4 (ob + 1) 23 #[.slice (some ⟨ob, 0, none⟩) n n] := by rw [hw4]; repeat' (first | exact C8.out | refine Blk.alloc ?_ _)
        have c54 : Blk w4 (w.heap.size + 1) 98 #[.map (some w.heap.size)] := by rw [hw4]; repeat' (first | exact C5.out | refine Blk.alloc ?_ _)
        have c94 : Blk w4 wq.heap.size 3 #[.int .i64 (k : Int)] := by rw [hw4]; repeat' (first | exact (Blk.new _ _ _) | refine Blk.alloc ?_ _)
        have cM4 : MapIs Try.prog 9 w4 w.heap.size m (posM ps xs m) := by rw [hw4]; repeat' (first | exact CM.out | refine MapIs.alloc ?_ _)
        have cz4 : Blk w4 ob 50 (cells2 (upto_ l ps xs k)).toArray := by rw [hw4]; repeat' (first | exact HBO.out | refine Blk.alloc ?_ _)
        have CZ4 := Lib.hid cz4
        have C84 := Lib.hid c84
        have C54 := Lib.hid c54
        have C94 := Lib.hid c94
        have CM4 := Lib.hid cM4
        have HBW4 : Hid (Below w.heap.size w w4) := (HBQ.out.grown hg4 (by omega) (fun g hg => by have := Option.some.inj hg; omega))
        have HSZ4 := Lib.hid hsz4
        have HG4 := Lib.hid hg4
        have BK4 := Lib.hid bk4
        have BT4 := Lib.hid bt4
        have BN4 := Lib.hid bn4
        clear hsz4 bk4 bt4 bn4 hg4 hw4 c84 c54 c94 cM4 cz4
        have hL0 : (upto_ l ps xs k).length = n := by simp [HUL.out]
        go_wp2_with fail
        refine (wpIn_wide (n := 10)).1 ?_
        refine wpIn_rangeFunc_ownG (F := Fence.wide) rfl (by decide) (gf := 72) (lb := #[.pointer (some ⟨wq.heap.size + 2 + 1, 0, none⟩), .pointer (some ⟨wq.heap.size + 2 + 2, 0, none⟩)]) rfl trivial (enters_of Try.func72 (by kernel_rfl) rfl)
          (below_stops l hfits _ n c tb mb (topOf l : Int) w.heap.size (by omega) (wq.heap.size + 2 + 1) (wq.heap.size + 2 + 2) l.length r.left xt0 hfit.left HX0.out 9 w4 (by rw [HSZ4.out]; omega) (by rw [HSZ4.out]; omega) (by rw [HSZ4.out]; omega) (BT4.out.cell 0) (BN4.out.cell 0) (HT.out.below HBW4.out))
          belowK_t (belowK_b (by rw [HSZ4.out]; omega)) (Below.refl _ _) (fun _ => rfl)
          (fun (pre : List Txt) W => w4.grownBy W (some ob) ∧ W.heap[ob]? = some (.cells (cells2 ((upto_ l ps xs k).set k (sumF (loadOf ps xs) (txts pre), 0))).toArray 50 (0, 0)))
          (fun _ _ _ => False)
          (OwnFrom.and (Fx.ownFrom_grown (Nat.le_refl _)) Fx.ownFrom_cells)
          (fun _ _ _ _ _ hs _ _ => hs)
          ⟨World.grownBy.refl _ _, by rw [show sumF (loadOf ps xs) (txts []) = 0 from rfl, upto_at (by rw [HLN.out]; exact hlt)]; exact CZ4.out⟩
          (fun x => { tmps := #[.pointer (some ⟨tb, 0, none⟩), .slice B m cb, undef, undef, .slice none 0 0, .pointer (some ⟨w.heap.size + 1, 0, none⟩), u6, u7, .pointer (some ⟨ob + 1, 0, none⟩), .pointer (some ⟨wq.heap.size, 0, none⟩), .pointer (some ⟨wq.heap.size + 1, 0, none⟩), .pointer (some ⟨wq.heap.size + 2, 0, none⟩), .string r.left, .string x.1, .map (some w.heap.size), .pointer (some ⟨tb, 0, none⟩), .slice A1 m c1, .int .i64 (m : Int), .int .i64 (k0 : Int), .bool false, u20, u21, u22, u23, u24, u25, u26, u27, u28, u29, .pointer (some ⟨tb, 0, none⟩), .pointer (some ⟨tb, 0, none⟩), .pointer (some ⟨tb, 0, none⟩), .slice (some ⟨zb, zo, none⟩) n c, .int .i64 (n : Int), .slice (some ⟨ob, 0, none⟩) n n, .pointer (some ⟨tb, 0, none⟩), .pointer (some ⟨tb, 0, none⟩), .pointer (some ⟨tb, 0, none⟩), .slice (some ⟨zb, zo, none⟩) n c, .int .i64 (n : Int), .int .i64 (k : Int), .bool true, .int .i64 (k : Int), .pointer (some ⟨zb, zo + k * 5, none⟩), .agg #[.string r.name, .string r.left, .string r.right, .int .i64 r.al, .int .i64 r.ar], .pointer (some ⟨wq.heap.size + 1, 1, none⟩), .string r.left, .pointer (some ⟨wq.heap.size + 1, 2, none⟩), .string r.right, .agg #[.string r.left, .string r.right], .int .i64 0, .bool true, .int .i64 0, .string r.left, .pointer (some ⟨tb, 0, none⟩), .string r.left, .func (.func 72) #[] #[.pointer (some ⟨wq.heap.size + 2 + 1, 0, none⟩), .pointer (some ⟨wq.heap.size + 2 + 2, 0, none⟩)], .string x.1, v59, v60, v61, v62, v63, v64, v65, v66, v67, v68, v69, v70, v71, v72, undef], defers := [] }) ?assign ?body ?done ?stop
        case assign =>
          intro l' x W K hK
          gi_wp2
          exact hK
        case body =>
          rintro l' pre x W ⟨hgw, hbw⟩ hlt'
          obtain ⟨W0, hW0⟩ : ∃ W0, W0 = W.drewN 1 := ⟨_, rfl⟩
          have hgw0 : w4.grownBy W0 (some ob) := by rw [hW0]; exact only_drewN hgw 1
          have hsz4 := HSZ4.out
          have ne : ∀ {g : Nat}, g ≠ ob → some g ≠ some ob := fun h e => h (Option.some.inj e)
          have b8 : Blk W0 (ob + 1) 23 #[.slice (some ⟨ob, 0, none⟩) n n] := C84.out.grown hgw0 (ne (by omega))
          have b5 : Blk W0 (w.heap.size + 1) 98 #[.map (some w.heap.size)] := C54.out.grown hgw0 (ne (by omega))
          have b9 : Blk W0 wq.heap.size 3 #[.int .i64 (k : Int)] := C94.out.grown hgw0 (ne (by omega))
          have b11 : Blk W0 (wq.heap.size + 2) 3 #[.int .i64 0] := BK4.out.grown hgw0 (ne (by omega))
          have bm : MapIs Try.prog 9 W0 w.heap.size m (posM ps xs m) := CM4.out.kept hgw0 (ne (by omega))
          have bo : Blk W0 ob 50 (cells2 ((upto_ l ps xs k).set k (sumF (loadOf ps xs) (txts pre), 0))).toArray := by rw [hW0]; exact hbw
          have hlook := bm.get Try.underlying9 Try.underlying98 (zero_int _) x.1 x.2
          rw [← HPM.out, posM_get] at hlook
          have hld := loadOf_bound (ps := ps) (by omega) hxs x.1
          obtain ⟨S, hS⟩ : ∃ z, sumF (loadOf ps xs) (txts pre) = z := ⟨_, rfl⟩
          obtain ⟨Z, hZ⟩ : ∃ z, loadOf ps xs x.1 = z := ⟨_, rfl⟩
          have hsb := sumF_bound (g := loadOf ps xs) (b := 1000000) (txts pre) (fun s _ => loadOf_bound (by omega) hxs s)
          have hpl : (txts pre).length ≤ 1000000 := by
            have h1 : (txts xt0).length ≤ 1000000 := by rw [HXT0.out]; exact hbl _
            unfold txts at h1 ⊢
            rw [List.length_map] at h1 ⊢
            omega
          have hsn : sumF (loadOf ps xs) (txts (pre ++ [x])) = S + Z := by
            rw [← hS, ← hZ, show txts (pre ++ [x]) = txts pre ++ [x.1] by simp [txts], sumF_snoc]
          rw [hS] at bo hsb
          rw [hZ] at hlook hld
          have hS2 : S ≤ 1000000000000 := by omega
          have bc := cells2_at (L := upto_ l ps xs k) (k := k) (by rw [hL0]; exact hlt) (S, 0)
          have cc : W0.cell? ⟨ob, k * 2, none⟩ = some (.int .i64 S) := by rw [bo.cell]; simpa using bc.1
          have ff := bo.frozen (k * 2)
          have c8 := b8.cell 0
          have c5 := b5.cell 0
          have c9 := b9.cell 0
          have c11 := b11.cell 0
          have hkn : (k : Int) < (n : Int) := by omega
          have hwr : IntKind.i64.wrap (S + Z) = S + Z := IntWalk.i64_in (S + Z) ⟨by omega, by omega⟩
          have HSN := Lib.hid hsn
          have BO := Lib.hid bo
          have HGW := Lib.hid hgw0
          have HLOOK := Lib.hid hlook
          clear hsn bo hgw0 hgw hbw hlook b8 b5 b9 b11 bm bc hS hZ hpl ne hsz4
          gi_wp2_with fail
          refine Fx.regionIn (fun f w' => (f 12 = false → w' = W0) ∧ (f 12 = true → w' = W0.setCell ⟨ob, k * 2, none⟩ (.int .i64 (S + Z)))) (by kernel_rfl) (by kernel_rfl) (by kernel_rfl) ?_ ?_
          · intro f hf0
            exact ⟨fun _ => hW0.symm, fun h => by rw [hf0 12] at h; cases h⟩
          have HW0 := Lib.hid hW0
          clear hW0
          refine Fx.val_ ?_ (by rfl) ?_ (fun f w h => h) ?_
          rotate_left
          · intro f w' hD hk
            obtain ⟨jw, jr⟩ := id hD
            have jw := jw (hk.2.1 12 (by kernel_rfl))
            have q0 : w'.cell? ⟨ob + 1, 0, none⟩ = some (.slice (some ⟨ob, 0, none⟩) n n) := by rw [jw]; exact c8
            clear hk hD jw jr
            go_simp
            try rfl
          simp only [Act.put, List.setIfInBounds_toArray, List.set_cons_zero, List.set_cons_succ]
          refine Fx.val_ ?_ (by rfl) ?_ (fun f w h => h) ?_
          rotate_left
          · intro f w' hD hk
            obtain ⟨jw, jr⟩ := id hD
            have jw := jw (hk.2.1 12 (by kernel_rfl))
            have q0 : w'.cell? ⟨wq.heap.size, 0, none⟩ = some (.int .i64 (k : Int)) := by rw [jw]; exact c9
            clear hk hD jw jr
            go_simp
            try rfl
          simp only [Act.put, List.setIfInBounds_toArray, List.set_cons_zero, List.set_cons_succ]
          refine Fx.val_ ?_ (by rfl) ?_ (fun f w h => h) ?_
          rotate_left
          · intro f w' hD hk
            obtain ⟨jw, jr⟩ := id hD
            have jw := jw (hk.2.1 12 (by kernel_rfl))
            have q0 : w'.cell? ⟨wq.heap.size + 2, 0, none⟩ = some (.int .i64 0) := by rw [jw]; exact c11
            clear hk hD jw jr
            go_simp
            try rfl
          simp only [Act.put, List.setIfInBounds_toArray, List.set_cons_zero, List.set_cons_succ]
          repeat (first
            | (refine Fx.skip_ (by rfl) (fun f w h => h) ?_; simp only [Act.put, List.setIfInBounds_toArray, List.set_cons_zero, List.set_cons_succ])
            | (refine Fx.val_ ?_ (by rfl) ?_ (fun f w h => h) ?_
               rotate_left
               · intro f w' hD hk
                 obtain ⟨jw, jr⟩ := id hD
                 clear hk hD jw jr
                 go_simp
                 try rfl
               simp only [Act.put, List.setIfInBounds_toArray, List.set_cons_zero, List.set_cons_succ]))
          refine Fx.val_ ?_ (by rfl) ?_ (fun f w h => h) ?_
          rotate_left
          · intro f w' hD hk
            obtain ⟨jw, jr⟩ := id hD
            have jw := jw (hk.2.1 12 (by kernel_rfl))
            have q0 : w'.cell? ⟨ob, k * 2, none⟩ = some (.int .i64 S) := by rw [jw]; exact cc
            clear hk hD jw jr
            go_simp
            try rfl
          simp only [Act.put, List.setIfInBounds_toArray, List.set_cons_zero, List.set_cons_succ]
          refine Fx.val_ ?_ (by rfl) ?_ (fun f w h => h) ?_
          rotate_left
          · intro f w' hD hk
            obtain ⟨jw, jr⟩ := id hD
            have jw := jw (hk.2.1 12 (by kernel_rfl))
            have q0 : w'.cell? ⟨w.heap.size + 1, 0, none⟩ = some (.map (some w.heap.size)) := by rw [jw]; exact c5
            clear hk hD jw jr
            go_simp
            try rfl
          simp only [Act.put, List.setIfInBounds_toArray, List.set_cons_zero, List.set_cons_succ]
          repeat (first
            | (refine Fx.skip_ (by rfl) (fun f w h => h) ?_; simp only [Act.put, List.setIfInBounds_toArray, List.set_cons_zero, List.set_cons_succ])
            | (refine Fx.val_ ?_ (by rfl) ?_ (fun f w h => h) ?_
               rotate_left
               · intro f w' hD hk
                 obtain ⟨jw, jr⟩ := id hD
                 clear hk hD jw jr
                 go_simp
                 try rfl
               simp only [Act.put, List.setIfInBounds_toArray, List.set_cons_zero, List.set_cons_succ]))
          refine Fx.val_ ?_ (by rfl) ?_ (fun f w h => h) ?_
          rotate_left
          · intro f w' hD hk
            obtain ⟨jw, jr⟩ := id hD
            have jw := jw (hk.2.1 12 (by kernel_rfl))
            have q0 : (Instr.lookup 98 (.map (some w.heap.size)) (.string x.1) false).run Try.prog w' = .ok (.int .i64 Z) w' := by rw [jw]; exact HLOOK.out
            clear hk hD jw jr
            go_simp
            try rfl
          simp only [Act.put, List.setIfInBounds_toArray, List.set_cons_zero, List.set_cons_succ]
          repeat (first
            | (refine Fx.skip_ (by rfl) (fun f w h => h) ?_; simp only [Act.put, List.setIfInBounds_toArray, List.set_cons_zero, List.set_cons_succ])
            | (refine Fx.val_ ?_ (by rfl) ?_ (fun f w h => h) ?_
               rotate_left
               · intro f w' hD hk
                 obtain ⟨jw, jr⟩ := id hD
                 clear hk hD jw jr
                 go_simp
                 try rfl
               simp only [Act.put, List.setIfInBounds_toArray, List.set_cons_zero, List.set_cons_succ]))
          refine Fx.store_ (fun w' => w'.setCell ⟨ob, k * 2, none⟩ (.int .i64 (S + Z))) (by rfl) ?_ ?_ ?_
          · intro f w' hD hk
            obtain ⟨jw, jr⟩ := id hD
            have jw := jw hk.1
            have q0 : w'.cell? ⟨ob, k * 2, none⟩ = some (.int .i64 S) := by rw [jw]; exact cc
            have q1 : w'.frozen? ⟨ob, k * 2, none⟩ = false := by rw [jw]; exact ff
            clear hk hD jw jr
            go_simp
          · intro f w' hD hk
            obtain ⟨jw, jr⟩ := id hD
            have jw := jw hk.1
            exact ⟨fun h => by simp [Fx.add] at h, fun _ => by rw [jw]⟩
          simp only [Act.put, List.setIfInBounds_toArray, List.set_cons_zero, List.set_cons_succ]
          refine Fx.nil_ ?_
          intro f w1 hall hD
          have hf12 := hall 12 (by simp)
          obtain ⟨jw, jr⟩ := hD
          simp only [hf12, if_true] at *
          have jr := jr (by first | rfl | trivial)
          clear jw
          try clear hall
          subst jr
          have hfin : Blk (W0.setCell ⟨ob, k * 2, none⟩ (.int .i64 (S + Z))) ob 50 (cells2 ((upto_ l ps xs k).set k (S + Z, 0))).toArray := by
            rw [← cells2_set0 _ _ S 0 (S + Z)]
            simpa using BO.out.set_ (k * 2) (.int .i64 (S + Z))
          refine ⟨?_, ?_, ?_, ?_⟩
          · rw [HW0.out]
            exact ((show KeepsOthers W (W.drewN 1) from ⟨Nat.le_refl _, fun _ _ h _ => h⟩).trans (KeepsOthers.setCell _ _ _)).from _
          · rw [HW0.out]
            exact (below_drewN (Below.refl w.heap.size W) 1).setCell (p := ⟨ob, _, none⟩) (by show w.heap.size ≤ ob; omega) _
          · exact only_setCell HGW.out (.inl rfl) _
          · rw [HSN.out]
            exact hfin
        case stop =>
          rintro D c pre W _ _ h _
          exact h.elim
        case done =>
          rintro D0 ys w5 hD hys ⟨hgw, hbw⟩ hK
          rw [hys] at hbw
          clear hys
          have hsz4 := HSZ4.out
          have ne : ∀ {g : Nat}, g ≠ ob → some g ≠ some ob := fun h e => h (Option.some.inj e)
          have HMK1 : Hid (Fx.MarksAt (ob + 2) (D0 :: Ds) w5) := by
            have h1 : Fx.MarksAt (ob + 2) Ds w5 := HMK.out.keep fun E hBE hE => (hgw.block E (by have := HG4.out.size; omega) (ne (by omega))).trans (HG4.out.block E hE (ne (by omega)))
            exact h1.cons (by omega) hK (fun hm => by have := (HMK.out.2 _ hm).2; have h2 := (Array.getElem?_eq_some_iff.1 this).1; have := HG4.out.size; omega)
          have C8w5 := Lib.hid (C84.out.grown hgw (ne (by omega)))
          have C5w5 := Lib.hid (C54.out.grown hgw (ne (by omega)))
          have C9w5 := Lib.hid (C94.out.grown hgw (ne (by omega)))
          have CMw5 := Lib.hid (CM4.out.kept hgw (ne (by omega)))
          have HGXw5 := Lib.hid (Fx.grown_trans_ (Fx.grown_trans_ HG.out HG4.out) hgw)
          have HBXw5 : Hid (Below w.heap.size w w5) := HBW4.out.grown hgw (by omega) (fun g hg => by have := Option.some.inj hg; omega)
          have HZXw5 : Hid (Blk w5 ob 50 (cells2 ((upto_ l ps xs k).set k (S0, 0))).toArray) := by
            have e : sumF (loadOf ps xs) (txts xt0) = S0 := by rw [HXT0.out]; exact HS0.out
            rw [e] at hbw
            skip
            exact hbw
          have hxsw5 : w4.heap.size ≤ w5.heap.size := hgw.size
          clear hgw hbw hK hD ne C84 C54 C94 CM4 HG4 BK4 BT4 BN4 HBW4 HMK C8 C5 CM HG
          have hw5q : wq.heap.size + 5 ≤ w5.heap.size := by omega
          clear hsz4 HSZ4 hxsw5
          go_wp2_with fail
          rw [rounds_succ]
          go_wp2_with fail
          clear hL0
          refine (below_any (some ⟨tb, 0, none⟩) r.right _).mono ?_
          rintro e w4 ⟨rfl, hw4⟩
          have hsz4 : w4.heap.size = w5.heap.size + 3 := by rw [hw4]; simp []
          have bk4 : Blk w4 (w5.heap.size) 3 #[.int .i64 1] := by rw [hw4]; exact ((Blk.at_ _ (by simp []) _ _).alloc _).alloc _
          have bt4 : Blk w4 (w5.heap.size + 1) 66 #[.pointer (some ⟨tb, 0, none⟩)] := by rw [hw4]; exact (Blk.at_ _ (by simp []) _ _).alloc _
          have bn4 : Blk w4 (w5.heap.size + 2) 9 #[.string r.right] := by rw [hw4]; exact Blk.at_ _ (by simp []) _ _
          have hg4 : w5.grownBy w4 (some ob) := by
            rw [hw4]
            repeat' (first | exact World.grownBy.refl _ _ | refine only_alloc ?_ _)
          have c84 : Blk w4 (ob + 1) 23 #[.slice (some ⟨ob, 0, none⟩) n n] := by rw [hw4]; repeat' (first | exact C8w5.out | refine Blk.alloc ?_ _)
          have c54 : Blk w4 (w.heap.size + 1) 98 #[.map (some w.heap.size)] := by rw [hw4]; repeat' (first | exact C5w5.out | refine Blk.alloc ?_ _)
          have c94 : Blk w4 wq.heap.size 3 #[.int .i64 (k : Int)] := by rw [hw4]; repeat' (first | exact C9w5.out | refine Blk.alloc ?_ _)
          have cM4 : MapIs Try.prog 9 w4 w.heap.size m (posM ps xs m) := by rw [hw4]; repeat' (first | exact CMw5.out | refine MapIs.alloc ?_ _)
          have cz4 : Blk w4 ob 50 (cells2 ((upto_ l ps xs k).set k (S0, 0))).toArray := by rw [hw4]; repeat' (first | exact HZXw5.out | refine Blk.alloc ?_ _)
          have CZ4 := Lib.hid cz4
          have C84 := Lib.hid c84
          have C54 := Lib.hid c54
          have C94 := Lib.hid c94
          have CM4 := Lib.hid cM4
          have HBW4 : Hid (Below w.heap.size w w4) := (HBXw5.out.grown hg4 (by omega) (fun g hg => by have := Option.some.inj hg; omega))
          have HSZ4 := Lib.hid hsz4
          have HG4 := Lib.hid hg4
          have BK4 := Lib.hid bk4
          have BT4 := Lib.hid bt4
          have BN4 := Lib.hid bn4
          clear hsz4 bk4 bt4 bn4 hg4 hw4 c84 c54 c94 cM4 cz4
          have hL1 : ((upto_ l ps xs k).set k (S0, 0)).length = n := by simp [HUL.out]
          go_wp2_with fail
          refine (wpIn_wide (n := 10)).1 ?_
          refine wpIn_rangeFunc_ownG (F := Fence.wide) rfl (by decide) (gf := 72) (lb := #[.pointer (some ⟨w5.heap.size + 1, 0, none⟩), .pointer (some ⟨w5.heap.size + 2, 0, none⟩)]) rfl trivial (enters_of Try.func72 (by kernel_rfl) rfl)
            (below_stops l hfits _ n c tb mb (topOf l : Int) w.heap.size (by omega) (w5.heap.size + 1) (w5.heap.size + 2) l.length r.right xt1 hfit.right HX1.out 9 w4 (by rw [HSZ4.out]; omega) (by rw [HSZ4.out]; omega) (by rw [HSZ4.out]; omega) (BT4.out.cell 0) (BN4.out.cell 0) (HT.out.below HBW4.out))
            belowK_t (belowK_b (by rw [HSZ4.out]; omega)) (Below.refl _ _) (fun _ => rfl)
            (fun (pre : List Txt) W => w4.grownBy W (some ob) ∧ W.heap[ob]? = some (.cells (cells2 (((upto_ l ps xs k).set k (S0, 0)).set k (S0, sumF (loadOf ps xs) (txts pre)))).toArray 50 (0, 0)))
            (fun _ _ _ => False)
            (OwnFrom.and (Fx.ownFrom_grown (Nat.le_refl _)) Fx.ownFrom_cells)
            (fun _ _ _ _ _ hs _ _ => hs)
            ⟨World.grownBy.refl _ _, by rw [show sumF (loadOf ps xs) (txts []) = 0 from rfl, List.set_set]; exact CZ4.out⟩
            (fun x => { tmps := #[.pointer (some ⟨tb, 0, none⟩), .slice B m cb, undef, undef, .slice none 0 0, .pointer (some ⟨w.heap.size + 1, 0, none⟩), u6, u7, .pointer (some ⟨ob + 1, 0, none⟩), .pointer (some ⟨wq.heap.size, 0, none⟩), .pointer (some ⟨wq.heap.size + 1, 0, none⟩), .pointer (some ⟨w5.heap.size, 0, none⟩), .string r.right, .string x.1, .map (some w.heap.size), .pointer (some ⟨tb, 0, none⟩), .slice A1 m c1, .int .i64 (m : Int), .int .i64 (k0 : Int), .bool false, u20, u21, u22, u23, u24, u25, u26, u27, u28, u29, .pointer (some ⟨tb, 0, none⟩), .pointer (some ⟨tb, 0, none⟩), .pointer (some ⟨tb, 0, none⟩), .slice (some ⟨zb, zo, none⟩) n c, .int .i64 (n : Int), .slice (some ⟨ob, 0, none⟩) n n, .pointer (some ⟨tb, 0, none⟩), .pointer (some ⟨tb, 0, none⟩), .pointer (some ⟨tb, 0, none⟩), .slice (some ⟨zb, zo, none⟩) n c, .int .i64 (n : Int), .int .i64 (k : Int), .bool true, .int .i64 (k : Int), .pointer (some ⟨zb, zo + k * 5, none⟩), .agg #[.string r.name, .string r.left, .string r.right, .int .i64 r.al, .int .i64 r.ar], .pointer (some ⟨wq.heap.size + 1, 1, none⟩), .string r.left, .pointer (some ⟨wq.heap.size + 1, 2, none⟩), .string r.right, .agg #[.string r.left, .string r.right], .int .i64 1, .bool true, .int .i64 1, .string r.right, .pointer (some ⟨tb, 0, none⟩), .string r.right, .func (.func 72) #[] #[.pointer (some ⟨w5.heap.size + 1, 0, none⟩), .pointer (some ⟨w5.heap.size + 2, 0, none⟩)], .string x.1, v59, v60, v61, v62, v63, v64, v65, v66, v67, v68, v69, v70, .int .i64 1, v72, undef], defers := [] }) ?assign ?body ?done ?stop
          case assign =>
            intro l' x W K hK
            gi_wp2
            exact hK
          case body =>
            rintro l' pre x W ⟨hgw, hbw⟩ hlt'
            obtain ⟨W0, hW0⟩ : ∃ W0, W0 = W.drewN 1 := ⟨_, rfl⟩
            have hgw0 : w4.grownBy W0 (some ob) := by rw [hW0]; exact only_drewN hgw 1
            have hsz4 := HSZ4.out
            have ne : ∀ {g : Nat}, g ≠ ob → some g ≠ some ob := fun h e => h (Option.some.inj e)
            have b8 : Blk W0 (ob + 1) 23 #[.slice (some ⟨ob, 0, none⟩) n n] := C84.out.grown hgw0 (ne (by omega))
            have b5 : Blk W0 (w.heap.size + 1) 98 #[.map (some w.heap.size)] := C54.out.grown hgw0 (ne (by omega))
            have b9 : Blk W0 wq.heap.size 3 #[.int .i64 (k : Int)] := C94.out.grown hgw0 (ne (by omega))
            have b11 : Blk W0 (w5.heap.size) 3 #[.int .i64 1] := BK4.out.grown hgw0 (ne (by omega))
            have bm : MapIs Try.prog 9 W0 w.heap.size m (posM ps xs m) := CM4.out.kept hgw0 (ne (by omega))
            have bo : Blk W0 ob 50 (cells2 (((upto_ l ps xs k).set k (S0, 0)).set k (S0, sumF (loadOf ps xs) (txts pre)))).toArray := by rw [hW0]; exact hbw
            have hlook := bm.get Try.underlying9 Try.underlying98 (zero_int _) x.1 x.2
            rw [← HPM.out, posM_get] at hlook
            have hld := loadOf_bound (ps := ps) (by omega) hxs x.1
            obtain ⟨S, hS⟩ : ∃ z, sumF (loadOf ps xs) (txts pre) = z := ⟨_, rfl⟩
            obtain ⟨Z, hZ⟩ : ∃ z, loadOf ps xs x.1 = z := ⟨_, rfl⟩
            have hsb := sumF_bound (g := loadOf ps xs) (b := 1000000) (txts pre) (fun s _ => loadOf_bound (by omega) hxs s)
            have hpl : (txts pre).length ≤ 1000000 := by
              have h1 : (txts xt1).length ≤ 1000000 := by rw [HXT1.out]; exact hbl _
              unfold txts at h1 ⊢
              rw [List.length_map] at h1 ⊢
              omega
            have hsn : sumF (loadOf ps xs) (txts (pre ++ [x])) = S + Z := by
              rw [← hS, ← hZ, show txts (pre ++ [x]) = txts pre ++ [x.1] by simp [txts], sumF_snoc]
            rw [hS] at bo hsb
            rw [hZ] at hlook hld
            have hS2 : S ≤ 1000000000000 := by omega
            have bc := cells2_at (L := (upto_ l ps xs k).set k (S0, 0)) (k := k) (by rw [hL1]; exact hlt) (S0, S)
            have cc : W0.cell? ⟨ob, k * 2 + 1, none⟩ = some (.int .i64 S) := by rw [bo.cell]; simpa using bc.2
            have ff := bo.frozen (k * 2 + 1)
            have c8 := b8.cell 0
            have c5 := b5.cell 0
            have c9 := b9.cell 0
            have c11 := b11.cell 0
            have hkn : (k : Int) < (n : Int) := by omega
            have hwr : IntKind.i64.wrap (S + Z) = S + Z := IntWalk.i64_in (S + Z) ⟨by omega, by omega⟩
            have HSN := Lib.hid hsn
            have BO := Lib.hid bo
            have HGW := Lib.hid hgw0
            have HLOOK := Lib.hid hlook
            clear hsn bo hgw0 hgw hbw hlook b8 b5 b9 b11 bm bc hS hZ hpl ne hsz4
            gi_wp2_with fail
            refine Fx.regionIn (fun f w' => (f 12 = false → w' = W0) ∧ (f 12 = true → w' = W0.setCell ⟨ob, k * 2 + 1, none⟩ (.int .i64 (S + Z)))) (by kernel_rfl) (by kernel_rfl) (by kernel_rfl) ?_ ?_
            · intro f hf0
              exact ⟨fun _ => hW0.symm, fun h => by rw [hf0 12] at h; cases h⟩
            have HW0 := Lib.hid hW0
            clear hW0
            refine Fx.val_ ?_ (by rfl) ?_ (fun f w h => h) ?_
            rotate_left
            · intro f w' hD hk
              obtain ⟨jw, jr⟩ := id hD
              have jw := jw (hk.2.1 12 (by kernel_rfl))
              have q0 : w'.cell? ⟨ob + 1, 0, none⟩ = some (.slice (some ⟨ob, 0, none⟩) n n) := by rw [jw]; exact c8
              clear hk hD jw jr
              go_simp
              try rfl
            simp only [Act.put, List.setIfInBounds_toArray, List.set_cons_zero, List.set_cons_succ]
            refine Fx.val_ ?_ (by rfl) ?_ (fun f w h => h) ?_
            rotate_left
            · intro f w' hD hk
              obtain ⟨jw, jr⟩ := id hD
              have jw := jw (hk.2.1 12 (by kernel_rfl))
              have q0 : w'.cell? ⟨wq.heap.size, 0, none⟩ = some (.int .i64 (k : Int)) := by rw [jw]; exact c9
              clear hk hD jw jr
              go_simp
              try rfl
            simp only [Act.put, List.setIfInBounds_toArray, List.set_cons_zero, List.set_cons_succ]
            refine Fx.val_ ?_ (by rfl) ?_ (fun f w h => h) ?_
            rotate_left
            · intro f w' hD hk
              obtain ⟨jw, jr⟩ := id hD
              have jw := jw (hk.2.1 12 (by kernel_rfl))
              have q0 : w'.cell? ⟨w5.heap.size, 0, none⟩ = some (.int .i64 1) := by rw [jw]; exact c11
              clear hk hD jw jr
              go_simp
              try rfl
            simp only [Act.put, List.setIfInBounds_toArray, List.set_cons_zero, List.set_cons_succ]
            repeat (first
              | (refine Fx.skip_ (by rfl) (fun f w h => h) ?_; simp only [Act.put, List.setIfInBounds_toArray, List.set_cons_zero, List.set_cons_succ])
              | (refine Fx.val_ ?_ (by rfl) ?_ (fun f w h => h) ?_
                 rotate_left
                 · intro f w' hD hk
                   obtain ⟨jw, jr⟩ := id hD
                   clear hk hD jw jr
                   go_simp
                   try rfl
                 simp only [Act.put, List.setIfInBounds_toArray, List.set_cons_zero, List.set_cons_succ]))
            refine Fx.val_ ?_ (by rfl) ?_ (fun f w h => h) ?_
            rotate_left
            · intro f w' hD hk
              obtain ⟨jw, jr⟩ := id hD
              have jw := jw (hk.2.1 12 (by kernel_rfl))
              have q0 : w'.cell? ⟨ob, k * 2 + 1, none⟩ = some (.int .i64 S) := by rw [jw]; exact cc
              clear hk hD jw jr
              go_simp
              try rfl
            simp only [Act.put, List.setIfInBounds_toArray, List.set_cons_zero, List.set_cons_succ]
            refine Fx.val_ ?_ (by rfl) ?_ (fun f w h => h) ?_
            rotate_left
            · intro f w' hD hk
              obtain ⟨jw, jr⟩ := id hD
              have jw := jw (hk.2.1 12 (by kernel_rfl))
              have q0 : w'.cell? ⟨w.heap.size + 1, 0, none⟩ = some (.map (some w.heap.size)) := by rw [jw]; exact c5
              clear hk hD jw jr
              go_simp
              try rfl
            simp only [Act.put, List.setIfInBounds_toArray, List.set_cons_zero, List.set_cons_succ]
            repeat (first
              | (refine Fx.skip_ (by rfl) (fun f w h => h) ?_; simp only [Act.put, List.setIfInBounds_toArray, List.set_cons_zero, List.set_cons_succ])
              | (refine Fx.val_ ?_ (by rfl) ?_ (fun f w h => h) ?_
                 rotate_left
                 · intro f w' hD hk
                   obtain ⟨jw, jr⟩ := id hD
                   clear hk hD jw jr
                   go_simp
                   try rfl
                 simp only [Act.put, List.setIfInBounds_toArray, List.set_cons_zero, List.set_cons_succ]))
            refine Fx.val_ ?_ (by rfl) ?_ (fun f w h => h) ?_
            rotate_left
            · intro f w' hD hk
              obtain ⟨jw, jr⟩ := id hD
              have jw := jw (hk.2.1 12 (by kernel_rfl))
              have q0 : (Instr.lookup 98 (.map (some w.heap.size)) (.string x.1) false).run Try.prog w' = .ok (.int .i64 Z) w' := by rw [jw]; exact HLOOK.out
              clear hk hD jw jr
              go_simp
              try rfl
            simp only [Act.put, List.setIfInBounds_toArray, List.set_cons_zero, List.set_cons_succ]
            repeat (first
              | (refine Fx.skip_ (by rfl) (fun f w h => h) ?_; simp only [Act.put, List.setIfInBounds_toArray, List.set_cons_zero, List.set_cons_succ])
              | (refine Fx.val_ ?_ (by rfl) ?_ (fun f w h => h) ?_
                 rotate_left
                 · intro f w' hD hk
                   obtain ⟨jw, jr⟩ := id hD
                   clear hk hD jw jr
                   go_simp
                   try rfl
                 simp only [Act.put, List.setIfInBounds_toArray, List.set_cons_zero, List.set_cons_succ]))
            refine Fx.store_ (fun w' => w'.setCell ⟨ob, k * 2 + 1, none⟩ (.int .i64 (S + Z))) (by rfl) ?_ ?_ ?_
            · intro f w' hD hk
              obtain ⟨jw, jr⟩ := id hD
              have jw := jw hk.1
              have q0 : w'.cell? ⟨ob, k * 2 + 1, none⟩ = some (.int .i64 S) := by rw [jw]; exact cc
              have q1 : w'.frozen? ⟨ob, k * 2 + 1, none⟩ = false := by rw [jw]; exact ff
              clear hk hD jw jr
              go_simp
            · intro f w' hD hk
              obtain ⟨jw, jr⟩ := id hD
              have jw := jw hk.1
              exact ⟨fun h => by simp [Fx.add] at h, fun _ => by rw [jw]⟩
            simp only [Act.put, List.setIfInBounds_toArray, List.set_cons_zero, List.set_cons_succ]
            refine Fx.nil_ ?_
            intro f w1 hall hD
            have hf12 := hall 12 (by simp)
            obtain ⟨jw, jr⟩ := hD
            simp only [hf12, if_true] at *
            have jr := jr (by first | rfl | trivial)
            clear jw
            try clear hall
            subst jr
            have hfin : Blk (W0.setCell ⟨ob, k * 2 + 1, none⟩ (.int .i64 (S + Z))) ob 50 (cells2 (((upto_ l ps xs k).set k (S0, 0)).set k (S0, S + Z))).toArray := by
              rw [← cells2_set1 _ _ S0 S (S + Z)]
              simpa using BO.out.set_ (k * 2 + 1) (.int .i64 (S + Z))
            refine ⟨?_, ?_, ?_, ?_⟩
            · rw [HW0.out]
              exact ((show KeepsOthers W (W.drewN 1) from ⟨Nat.le_refl _, fun _ _ h _ => h⟩).trans (KeepsOthers.setCell _ _ _)).from _
            · rw [HW0.out]
              exact (below_drewN (Below.refl w.heap.size W) 1).setCell (p := ⟨ob, _, none⟩) (by show w.heap.size ≤ ob; omega) _
            · exact only_setCell HGW.out (.inl rfl) _
            · rw [HSN.out]
              exact hfin
          case stop =>
            rintro D c pre W _ _ h _
            exact h.elim
          case done =>
            rintro D1 ys w6 hD hys ⟨hgw, hbw⟩ hK
            rw [hys] at hbw
            clear hys
            have hsz4 := HSZ4.out
            have ne : ∀ {g : Nat}, g ≠ ob → some g ≠ some ob := fun h e => h (Option.some.inj e)
            have HMK2 : Hid (Fx.MarksAt (ob + 2) (D1 :: D0 :: Ds) w6) := by
              have h1 : Fx.MarksAt (ob + 2) (D0 :: Ds) w6 := HMK1.out.keep fun E hBE hE => (hgw.block E (by have := HG4.out.size; omega) (ne (by omega))).trans (HG4.out.block E hE (ne (by omega)))
              exact h1.cons (by omega) hK (fun hm => by have := (HMK1.out.2 _ hm).2; have h2 := (Array.getElem?_eq_some_iff.1 this).1; have := HG4.out.size; omega)
            have C8w6 := Lib.hid (C84.out.grown hgw (ne (by omega)))
            have C5w6 := Lib.hid (C54.out.grown hgw (ne (by omega)))
            have C9w6 := Lib.hid (C94.out.grown hgw (ne (by omega)))
            have CMw6 := Lib.hid (CM4.out.kept hgw (ne (by omega)))
            have HGXw6 := Lib.hid (Fx.grown_trans_ (Fx.grown_trans_ HGXw5.out HG4.out) hgw)
            have HBXw6 : Hid (Below w.heap.size w w6) := HBW4.out.grown hgw (by omega) (fun g hg => by have := Option.some.inj hg; omega)
            have HZXw6 : Hid (Blk w6 ob 50 (cells2 ((upto_ l ps xs k).set k (S0, S1))).toArray) := by
              have e : sumF (loadOf ps xs) (txts xt1) = S1 := by rw [HXT1.out]; exact HS1.out
              rw [e] at hbw
              rw [List.set_set] at hbw
              exact hbw
            have hxsw6 : w4.heap.size ≤ w6.heap.size := hgw.size
            clear hgw hbw hK hD ne C84 C54 C94 CM4 HG4 BK4 BT4 BN4 HBW4 HMK1 C8w5 C5w5 C9w5 CMw5 HGXw5
            have HMF := Lib.hid HMK2.out
            clear hsz4 HSZ4 HMK2
            go_wp2_with fail
            rw [rounds_succ]
            go_wp2_with fail
            refine ⟨⟨k + 1, D1 :: D0 :: Ds, _, _, _, _, _, _, _, _, _, _, _, _, _, _, _, _, _, _, _, _, _, _, _, _, _, _, _, _, _, _, _, _, _, _, _, _, by omega, HMF.out, ?_, HGXw6.out, rfl⟩, ?_⟩
            · rw [← upto_succ' HR.out HS0.out HS1.out]
              exact HZXw6.out
            · simp [intOf]
              omega
      · have hkn : k = n := by omega
        have HBQ : Hid (Below w.heap.size w wq) := HB3.out.grown HG.out (by have := HS3.out; omega) (fun g hg => by have := Option.some.inj hg; omega)
        have c8 : wq.cell? ⟨ob + 1, 0, none⟩ = some (.slice (some ⟨ob, 0, none⟩) n n) := (K8.out.grown HG.out (fun e => by have := Option.some.inj e; omega)).cell 0
        rw [hkn] at HBO
        clear hkn
        go_wp2_with fail
        refine Fx.leaves_marks Ds wq HMK.out fun w' q1 q2 q3 q4 q5 => ⟨_, results_tmp rfl _ _ _, ?_⟩
        have hsq := HG.out.size
        have hs3 := HS3.out
        have hb : Below w.heap.size w w' := ⟨q2.trans HBQ.out.os, q3.trans HBQ.out.tape, q4.trans HBQ.out.output, by have := HBQ.out.size; omega, fun i hi => (q1 i (by omega) (fun D hD => by have := (HMK.out.2 D hD).1; omega)).trans (HBQ.out.block i hi)⟩
        have hz : Blk w' ob 50 (cells2 (sidesOf l ps xs)).toArray := by
          have h1 := HBO.out
          rw [← HLN.out, upto_all] at h1
          exact (q1 ob (by omega) (fun D hD => by have := (HMK.out.2 D hD).1; omega)).trans h1
        refine ⟨hb, some ⟨ob, 0, none⟩, n, rfl, Blk.reads hz ?_, fun b o e => ?_⟩
        rotate_left
        · cases e
          omega
        rw [cells2_length]
        unfold sidesOf
        rw [List.length_map, HLN.out]

end Go.Proofs.Ytfigbdhfmlhjdaa

end
