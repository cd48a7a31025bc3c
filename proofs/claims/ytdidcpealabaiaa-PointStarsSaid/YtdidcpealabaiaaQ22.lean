import Derived.Test.YtdidcpealabaiaaQ21
import Derived.Test.YtdidcpealabaiaaQ17

section
/- Contract of the reference's determinant. -/
namespace Go.Proofs.Ytdidcpealabaiaa
open Go Go.RowKit

structure RowsOwn (B : Nat) (ts : List TRow) (u : Value) (k : Nat) (w : World) : Prop where
  row : w.ownsRow B 43 1 u k (ts.map TRow.val)
  each : ∀ r ∈ ts, w.ownsRow B 3 1 r.val r.n (r.xs.map (.int .i64))
theorem RowsOwn.below {B : Nat} {ts : List TRow} {u : Value} {k : Nat} {w w' : World} (h : RowsOwn B ts u k w) (hb : Below w.heap.size w w') : RowsOwn B ts u k w' :=
  ⟨own_below h.row hb (Nat.le_refl _), fun r hr => own_below (h.each r hr) hb (Nat.le_refl _)⟩
theorem RowsOwn.at_ {B : Nat} {ts : List TRow} {A : Option Addr} {k c : Nat} {w : World} (h : RowsOwn B ts (.slice A k c) k w) : ReadsT w w.heap.size A k ts :=
  ⟨own_reads2 h.row, fun r hr => ⟨own_cap (h.each r hr), own_reads2 (h.each r hr)⟩⟩
theorem Reads.takeI {w : World} {B n c : Nat} {A : Option Addr} {l : List Int} (h : Reads w B 1 A n (l.map (.int .i64))) (hc : c ≤ n) : Reads w B 1 A c ((l.take c).map (.int .i64)) := by
  have hl := h.ilen
  refine ⟨by rw [List.length_map, List.length_take]; omega, fun h0 => ?_⟩
  obtain ⟨b, o, e, hb, hx⟩ := h.2 (by omega)
  refine ⟨b, o, e, hb, fun j u hu => hx j u ?_⟩
  rw [List.map_take, List.getElem?_take] at hu
  split at hu
  · exact hu
  · cases hu
theorem Reads.dropI {w : World} {B n c b o : Nat} {l : List Int} (h : Reads w B 1 (some ⟨b, o, none⟩) n (l.map (.int .i64))) (hc : c ≤ n) : Reads w B 1 (some ⟨b, o + c, none⟩) (n - c) ((l.drop c).map (.int .i64)) := by
  have hl := h.ilen
  refine ⟨by rw [List.length_map, List.length_drop]; omega, fun h0 => ?_⟩
  obtain ⟨b', o', e, hb, hx⟩ := h.2 (by omega)
  cases e
  refine ⟨b, o + c, rfl, hb, fun j u hu => ?_⟩
  rw [Nat.add_assoc]
  refine hx (c + j) u ?_
  rw [List.map_drop, List.getElem?_drop] at hu
  exact hu

/-- The region that cuts a number out of a row and appends the rest. -/
structure CutD (B k p q : Nat) (u : Value) (ts : List TRow) (xs ys : List Int) (W : World) (g : Nat → Option Pick2) (f : Nat → Bool) (w' : World) : Prop where
  bel : Below B W w'
  pre : f 18 = false → Below W.heap.size W w'
  c1 : f 18 = false → ∀ x, g 1 = some x → g 8 = none → w'.ownsRow W.heap.size 3 1 (.slice x.1.1 0 0) 0 []
  c8 : f 18 = false → ∀ x, g 8 = some x → g 16 = none → w'.ownsRow W.heap.size 3 1 (.slice x.1.1 p x.1.2) p (xs.map (.int .i64))
  c16 : f 18 = false → ∀ y, g 16 = some y → w'.ownsRow W.heap.size 3 1 (.slice y.1.1 (p + q) y.1.2) (p + q) ((xs ++ ys).map (.int .i64))
  c17 : f 18 = false → ∀ y z, g 16 = some y → g 17 = some z → ∃ b, z.1.1 = some ⟨b, 0, none⟩ ∧ Blk w' b 43 #[.slice y.1.1 (p + q) y.1.2]
  post : ∀ y z, g 16 = some y → g 18 = some z → RowsOwn B (ts ++ [⟨y.1.1, p + q, y.1.2, xs ++ ys⟩]) (.slice z.1.1 (k + 1) z.1.2) (k + 1) w'
section
variable {B k p q i : Nat} {u : Value} {ts : List TRow} {xs ys : List Int} {W w' : World} {g : Nat → Option Pick2} {f : Nat → Bool}
theorem CutD.start : CutD B k p q u ts xs ys W (fun _ => none) f (W.drewN 1) :=
  ⟨below_drewN (Below.refl _ _) 1, fun _ => below_drewN (Below.refl _ _) 1, fun _ _ h => (nomatch h), fun _ _ h => (nomatch h), fun _ _ h => (nomatch h), fun _ _ _ h => (nomatch h), fun _ _ h => (nomatch h)⟩
theorem CutD.same (h : CutD B k p q u ts xs ys W g f w') (hi : i ≠ 18) : CutD B k p q u ts xs ys W g (Fx.add f i) w' :=
  ⟨h.bel, fun hf => h.pre (by rwa [add_ne' hi] at hf), fun hf => h.c1 (by rwa [add_ne' hi] at hf), fun hf => h.c8 (by rwa [add_ne' hi] at hf), fun hf => h.c16 (by rwa [add_ne' hi] at hf), fun hf => h.c17 (by rwa [add_ne' hi] at hf), h.post⟩
theorem CutD.lit1 (h : CutD B k p q u ts xs ys W g f w') (hB : B ≤ W.heap.size) (h18 : f 18 = false) (g8 : g 8 = none) (g16 : g 16 = none) (g18 : g 18 = none) :
    CutD B k p q u ts xs ys W (Fx.upd g 1 ((some ⟨w'.heap.size, 0, none⟩, 0), (none, 0))) (Fx.add f 1) (w'.alloc (.cells #[] 3)) := by
  have hb : Below w'.heap.size w' (w'.alloc (.cells #[] 3)) := (Below.refl _ _).alloc (Nat.le_refl _) _
  have hz := (h.pre h18).size
  refine ⟨h.bel.trans (hb.mono (by omega)), fun _ => step_below hb (h.pre h18), fun _ x hx _ => ?_, fun _ x hx => ?_, fun _ y hy => ?_, fun _ y z hy => ?_, fun y z hy => ?_⟩
  · rw [Fx.upd_same] at hx
    cases hx
    exact World.ownsRow_made _ _ _ hz (by unfold maxLen; omega) rfl
  · rw [upd_ne (by decide), g8] at hx; cases hx
  · rw [upd_ne (by decide), g16] at hy; cases hy
  · rw [upd_ne (by decide), g16] at hy; cases hy
  · rw [upd_ne (by decide), g16] at hy; cases hy
theorem CutD.app8 (h : CutD B k p q u ts xs ys W g f w') (hB : B ≤ W.heap.size) (h18 : f 18 = false) (g8 : g 8 = none) (g16 : g 16 = none) {x : Pick2} (hx : g 1 = some x) {A : Option Addr} {c : Nat} (hr : Reads w' w'.heap.size 1 A p (xs.map (.int .i64))) (hp : p ≤ 1000) :
    ∃ (z : Pick2) (w'' : World), (Builtin.append_ #[43, 43] 43 #[.slice x.1.1 0 0, .slice A p c]).run Try.prog w' = .ok (.slice z.1.1 p z.1.2) w'' ∧ CutD B k p q u ts xs ys W (Fx.upd g 8 z) (Fx.add f 8) w'' := by
  obtain ⟨i0, hi0, hz0, hz1, hz2⟩ := info_parts info_int
  have hz := (h.pre h18).size
  have ho := h.c1 h18 x hx g8
  obtain ⟨v', W2, hrun, o2', hg2, -⟩ := run_append_any (P := Try.prog) w' W.heap.size 43 43 3 i0 _ 1 8 Try.underlying43 hi0 hz0 hz1 hz2 rfl (by omega) (.slice x.1.1 0 0) 0 [] ho w'.heap.size A p c _ hr (one_ints _) (by unfold maxLen; omega) (by omega) hz
  rw [Nat.zero_add, List.nil_append] at o2'
  obtain ⟨A2, c2, rfl, -⟩ := own_reads o2'
  have hb2 : Below W.heap.size W W2 := (h.pre h18).grown hg2 hz (fun q hq => (own_lt ho hq).1)
  refine ⟨((A2, c2), (none, 0)), W2, hrun, h.bel.grown hg2 (by omega) (fun q hq => by have := (own_lt ho hq).1; omega), fun _ => hb2, fun _ y hy h8 => ?_, fun _ y hy _ => ?_, fun _ y hy => ?_, fun _ y z hy => ?_, fun y z hy => ?_⟩
  · rw [Fx.upd_same] at h8; cases h8
  · rw [Fx.upd_same] at hy
    cases hy
    exact o2'
  · rw [upd_ne (by decide), g16] at hy; cases hy
  · rw [upd_ne (by decide), g16] at hy; cases hy
  · rw [upd_ne (by decide), g16] at hy; cases hy
theorem CutD.app16 (h : CutD B k p q u ts xs ys W g f w') (hB : B ≤ W.heap.size) (h18 : f 18 = false) (g16 : g 16 = none) (g17 : g 17 = none) (g18 : g 18 = none) {x : Pick2} (hx : g 8 = some x) {A : Option Addr} {c : Nat} (hr : Reads w' w'.heap.size 1 A q (ys.map (.int .i64))) (hp : p ≤ 1000) (hq : q ≤ 1000) :
    ∃ (z : Pick2) (w'' : World), (Builtin.append_ #[43, 43] 43 #[.slice x.1.1 p x.1.2, .slice A q c]).run Try.prog w' = .ok (.slice z.1.1 (p + q) z.1.2) w'' ∧ CutD B k p q u ts xs ys W (Fx.upd g 16 z) (Fx.add f 16) w'' := by
  obtain ⟨i0, hi0, hz0, hz1, hz2⟩ := info_parts info_int
  have hz := (h.pre h18).size
  have ho := h.c8 h18 x hx g16
  obtain ⟨v', W2, hrun, o2', hg2, -⟩ := run_append_any (P := Try.prog) w' W.heap.size 43 43 3 i0 _ 1 8 Try.underlying43 hi0 hz0 hz1 hz2 rfl (by omega) (.slice x.1.1 p x.1.2) p _ ho w'.heap.size A q c _ hr (one_ints _) (by unfold maxLen; omega) (by omega) hz
  rw [← List.map_append] at o2'
  obtain ⟨A2, c2, rfl, -⟩ := own_reads o2'
  have hb2 : Below W.heap.size W W2 := (h.pre h18).grown hg2 hz (fun q hq => (own_lt ho hq).1)
  refine ⟨((A2, c2), (none, 0)), W2, hrun, h.bel.grown hg2 (by omega) (fun q hq => by have := (own_lt ho hq).1; omega), fun _ => hb2, fun _ y hy h8 => ?_, fun _ y hy h16 => ?_, fun _ y hy => ?_, fun _ y z hy hzz => ?_, fun y z hy hzz => ?_⟩
  · rw [upd_ne (by decide), hx] at h8; cases h8
  · rw [Fx.upd_same] at h16; cases h16
  · rw [Fx.upd_same] at hy
    cases hy
    exact o2'
  · rw [upd_ne (by decide), g17] at hzz; cases hzz
  · rw [upd_ne (by decide), g18] at hzz; cases hzz
theorem CutD.lit17 (h : CutD B k p q u ts xs ys W g f w') (hB : B ≤ W.heap.size) (h18 : f 18 = false) (g18 : g 18 = none) {y x : Pick2} (hx : g 8 = some x) (hy0 : g 16 = some y) :
    CutD B k p q u ts xs ys W (Fx.upd g 17 ((some ⟨w'.heap.size, 0, none⟩, 1), (none, 0))) (Fx.add f 17) (w'.alloc (.cells #[.slice y.1.1 (p + q) y.1.2] 43)) := by
  have hb : Below w'.heap.size w' (w'.alloc (.cells #[.slice y.1.1 (p + q) y.1.2] 43)) := (Below.refl _ _).alloc (Nat.le_refl _) _
  have hz := (h.pre h18).size
  refine ⟨h.bel.trans (hb.mono (by omega)), fun _ => step_below hb (h.pre h18), fun _ z _ h8 => ?_, fun _ z _ h16 => ?_, fun _ z hz' => ?_, fun _ z v hz' hv => ?_, fun z v _ hv => ?_⟩
  · rw [upd_ne (by decide), hx] at h8; cases h8
  · rw [upd_ne (by decide), hy0] at h16; cases h16
  · rw [upd_ne (by decide)] at hz'
    exact own_below (h.c16 h18 z hz') hb (Nat.le_refl _)
  · rw [upd_ne (by decide), hy0] at hz'
    cases hz'
    rw [Fx.upd_same] at hv
    cases hv
    exact ⟨_, rfl, Blk.new _ _ _⟩
  · rw [upd_ne (by decide), g18] at hv; cases hv
theorem CutD.app18 (h : CutD B k p q u ts xs ys W g f w') (hB : B ≤ W.heap.size) (hS : RowsOwn B ts u k W) (hk : k ≤ 1000) (h18 : f 18 = false) {y z : Pick2} (hy0 : g 16 = some y) (hz0' : g 17 = some z) :
    ∃ (v : Pick2) (w'' : World), (Builtin.append_ #[65, 65] 65 #[u, .slice z.1.1 1 1]).run Try.prog w' = .ok (.slice v.1.1 (k + 1) v.1.2) w'' ∧ CutD B k p q u ts xs ys W (Fx.upd g 18 v) (Fx.add f 18) w'' := by
  obtain ⟨i0, hi0, hz0, hz1, hz2⟩ := info_parts info_ints
  obtain ⟨b, hb, hblk⟩ := h.c17 h18 y z hy0 hz0'
  have hz := (h.pre h18).size
  have ho := hS.below (h.pre h18)
  have hn := h.c16 h18 y hy0
  have hr : Reads w' w'.heap.size 1 (some ⟨b, 0, none⟩) 1 [.slice y.1.1 (p + q) y.1.2] := Blk.reads hblk rfl
  rw [hb]
  obtain ⟨v', W2, hrun, o2', hg2, -⟩ := run_append_any (P := Try.prog) w' B 65 65 43 i0 _ 1 24 Try.underlying65 hi0 hz0 hz1 hz2 rfl (by omega) u k _ ho.row w'.heap.size (some ⟨b, 0, none⟩) 1 1 [.slice y.1.1 (p + q) y.1.2] hr (by simp [Value.oneCell']) (by unfold maxLen; omega) (by omega) (by omega)
  obtain ⟨A2, c2, rfl, -⟩ := own_reads o2'
  refine ⟨((A2, c2), (none, 0)), W2, hrun, h.bel.grown hg2 (by omega) (fun q hq => (own_lt ho.row hq).1), fun hf => ?_, fun hf => ?_, fun hf => ?_, fun hf => ?_, fun hf => ?_, fun y' v hy' hv => ?_⟩
  · rw [add_same] at hf; cases hf
  · rw [add_same] at hf; cases hf
  · rw [add_same] at hf; cases hf
  · rw [add_same] at hf; cases hf
  · rw [add_same] at hf; cases hf
  · rw [upd_ne (by decide), hy0] at hy'
    cases hy'
    rw [Fx.upd_same] at hv
    cases hv
    refine ⟨by rw [List.map_append]; exact o2', fun r hr => ?_⟩
    rcases List.mem_append.1 hr with hr | hr
    · exact own_apart (ho.each r hr) ho.row (by decide) hg2
    · obtain rfl : r = _ := by simpa using hr
      exact own_apart (own_mono hn hB) ho.row (by decide) hg2
end

/-- The rows that are cut, of the first k behind the first. -/
def cutRows (c k : Nat) (t : List TRow) : List (List Int) := ((t.drop 1).take k).map fun r => cut c r.xs
theorem cutRows_all {c k : Nat} {t : List TRow} (h : t.length = k + 1) : cutRows c k t = minorM c (t.map TRow.xs) := by
  unfold cutRows minorM
  rw [List.take_of_length_le (by rw [List.length_drop]; omega), ← List.map_drop, List.map_map]
  rfl
theorem cutRows_succ {c k : Nat} {t : List TRow} {r : TRow} (h : t[k + 1]? = some r) : cutRows c (k + 1) t = cutRows c k t ++ [cut c r.xs] := by
  unfold cutRows
  rw [List.take_add_one, List.getElem?_drop, show 1 + k = k + 1 by omega, h, List.map_append]
  rfl

set_option maxRecDepth 100000 in
set_option maxHeartbeats 4000000 in
theorem rdet_is : ∀ (N : Nat) (A : Option Addr) (c : Nat) (t : List TRow) (v : Int) (_ : detR N (t.map TRow.xs) = v) (_ : DetOk N (t.map TRow.xs)) (_ : ∀ r ∈ t, r.n = N) (w : World) (_ : ReadsT w w.heap.size A N t) (_ : N ≤ 10),
    Calls Try.prog 83 #[.slice A N c] w fun e w' => e = .returned (.int .i64 v) ∧ Below w.heap.size w w'
  | 0, A, c, t, v, hv, _, _, w, hx, _ => by
    obtain rfl : (1 : Int) = v := hv
    go_enter Try.func83, Try.ntmps83
    go_wp2
    go_ret
    exact ⟨rfl, Below.refl _ _⟩
  | n + 1, A, c, t, v, hv, hok, hsq, w, hx, hN => by
    have ih := rdet_is n
    obtain ⟨N, hNn⟩ : ∃ N, n + 1 = N := ⟨_, rfl⟩
    obtain ⟨M, hM⟩ : ∃ M, t.map TRow.xs = M := ⟨_, rfl⟩
    rw [hM] at hv hok
    have hok' : ∀ c, c < N → InW (sgn c * (M.headD []).getD c 0) ∧ InW (sgn c * (M.headD []).getD c 0 * detR n (minorM c M)) ∧ InW (detTo n M (c + 1)) ∧ DetOk n (minorM c M) := fun c hc => hok c (by omega)
    have hv' : detTo n M N = v := by rw [← hNn]; exact hv
    rw [hNn] at hsq hx ⊢
    have hlen := hx.len
    have IH := Lib.hid ih
    have HV := Lib.hid hv'
    have HOK := Lib.hid hok'
    have HSQ := Lib.hid hsq
    have HX := Lib.hid hx
    have HM := Lib.hid hM
    have HL := Lib.hid hlen
    have hN0 : 0 < N := by omega
    have hN10 : N ≤ 10 := by omega
    have e0 : ((N : Int) == 0) = false := by rw [beq_eq_false_iff_ne]; omega
    have HNN := Lib.hid hNn
    clear ih hv hok hok' hv' hsq hx hM hlen hNn
    go_enter Try.func83, Try.ntmps83
    go_wp2
    go_loopw [3, 4, 5] (fun s g i wr => ∃ k : Nat, k ≤ N ∧ s = .int .i64 (detTo n M k) ∧ g = .int .i64 (sgn k) ∧ i = .int .i64 k ∧ Below w.heap.size w wr) (fun _ _ i _ => N - (intOf i).toNat)
    case atStart => exact ⟨0, by omega, rfl, rfl, rfl, Below.refl _ _⟩
    case round =>
      obtain ⟨k, hk, rfl, rfl, rfl, hb1⟩ := hrel
      obtain ⟨w1, hnm⟩ : ∃ z : World, z = wr := ⟨_, rfl⟩
      subst hnm
      have HB1' := Lib.hid hb1
      clear hb1
      by_cases hlt : k < N
      · have hkk : (k : Int) < (N : Int) := by omega
        go_wp2
        go_loopw [6, 7] (fun o i wr => ∃ (j : Nat) (ts : List TRow), j ≤ n ∧ i = .int .i64 ((j + 1 : Nat) : Int) ∧ Below w1.heap.size w1 wr ∧ ts.map TRow.xs = cutRows k j t ∧ (∀ r ∈ ts, r.n = n) ∧ RowsOwn w1.heap.size ts o j wr) (fun _ i _ => N - (intOf i).toNat)
        case atStart => exact ⟨0, [], by omega, rfl, Below.refl _ _, rfl, by simp, ⟨World.ownsRow_nil _ _ _ _, by simp⟩⟩
        case round =>
          obtain ⟨j, ts, hj, rfl, hb2, hts, hrn, ho⟩ := hrel
          obtain ⟨w2, hnm⟩ : ∃ z : World, z = wr := ⟨_, rfl⟩
          subst hnm
          have HB2' := Lib.hid hb2
          have HTS := Lib.hid hts
          have HRN := Lib.hid hrn
          have HO := Lib.hid ho
          have HB12' := Lib.hid hb2
          have hB12 := hb2.size
          have hbw2 := HB1'.out.trans (hb2.mono HB1'.out.size)
          have HBW2 := Lib.hid hbw2
          have hB01 := HB1'.out.size
          clear hb2 hts hrn ho hbw2
          by_cases hlt2 : j < n
          · obtain ⟨tb, to, r, rfl, htb, hr, c0, hrc, hrl, hrr⟩ := HX.out.at_ (show j + 1 < N by have := HNN.out; omega)
            have hrN := HSQ.out r (List.mem_of_getElem? hr)
            obtain ⟨rA, rn, rc, rx⟩ := r
            simp only at c0 hrc hrl hrr hrN
            subst hrN
            obtain ⟨rb, ro, rfl, hrb, -⟩ := hrr.2 hN0
            have c2 := (HBW2.out.cell (p := ⟨tb, to + (j + 1), none⟩) htb).trans c0
            have hr2 := (hrr.below HBW2.out).more HBW2.out.size
            have HTK := Lib.hid (hr2.takeI (show k ≤ rn by omega))
            obtain ⟨DA, hDA⟩ : ∃ DA : Option Addr, (if rc = k + 1 then some ⟨rb, ro, none⟩ else some ⟨rb, ro + (k + 1), none⟩) = DA := ⟨_, rfl⟩
            have hdr : Reads w2 w2.heap.size 1 DA (rn - (k + 1)) ((rx.drop (k + 1)).map (.int .i64)) := by
              rw [← hDA]
              split
              · have h1 := hr2.ilen
                exact ⟨by rw [List.length_map, List.length_drop]; omega, fun h => absurd h (by omega)⟩
              · exact hr2.dropI (show k + 1 ≤ rn by omega)
            have HDR := Lib.hid hdr
            have s1 : k ≤ rc := by omega
            have s2 : (0 : Int) ≤ (k : Int) + 1 := by omega
            have s3 : (k : Int) + 1 ≤ (rn : Int) := by omega
            have HRR := Lib.hid hr
            have htb1 : tb < w1.heap.size := by omega
            have hjn : ((j : Int) + 1) < (rn : Int) := by have := HNN.out; omega
            have hjn' : j + 1 < rn := by have := HNN.out; omega
            have v1 := IntWalk.i64_in ((k : Int) + 1) ⟨by omega, by omega⟩
            clear hr hrr c0 hr2 hrl hdr
            go_wp2_with fail
            refine Fx.regionM (fun W (g : Nat → Option Pick2) f w' => CutD w1.heap.size j k (rn - (k + 1)) u6 ts (rx.take k) (rx.drop (k + 1)) W g f w') (fun i (x : Pick2) => if i = 1 then .slice x.1.1 0 0 else if i = 8 then .slice x.1.1 k x.1.2 else if i = 16 then .slice x.1.1 (k + (rn - (k + 1))) x.1.2 else if i = 17 then .slice x.1.1 1 1 else .slice x.1.1 (j + 1) x.1.2) (by kernel_rfl) ?_ ?_
            · intro f hf0
              exact CutD.start
            first
            | (refine Fx.WM.skip 0 (by rfl) (by kernel_rfl) (by kernel_rfl) (by kernel_rfl) (by rfl) (fun g f w h => h.same (by decide)) ?_; simp only [Act.put, List.setIfInBounds_toArray, List.set_cons_zero, List.set_cons_succ])
            | (refine Fx.WM.val_ 0 ?_ (by rfl) (by kernel_rfl) (by kernel_rfl) (by kernel_rfl) (by rfl) ?_ (fun g f w h => h.same (by decide)) ?_
               rotate_left
               · intro g f w' hx hD hk
                 obtain hcd := id hD
                 have y0 := (hcd.bel.cell (p := ⟨tb, to + (j + 1), none⟩) htb1).trans c2
                 clear hx hk hD hcd
                 go_simp
                 try rfl
               simp only [Act.put, List.setIfInBounds_toArray, List.set_cons_zero, List.set_cons_succ])
            first
            | (refine Fx.WM.skip 2 (by rfl) (by kernel_rfl) (by kernel_rfl) (by kernel_rfl) (by rfl) (fun g f w h => h.same (by decide)) ?_; simp only [Act.put, List.setIfInBounds_toArray, List.set_cons_zero, List.set_cons_succ])
            | (refine Fx.WM.val_ 2 ?_ (by rfl) (by kernel_rfl) (by kernel_rfl) (by kernel_rfl) (by rfl) ?_ (fun g f w h => h.same (by decide)) ?_
               rotate_left
               · intro g f w' hx hD hk
                 obtain hcd := id hD
                 have y0 := (hcd.bel.cell (p := ⟨tb, to + (j + 1), none⟩) htb1).trans c2
                 clear hx hk hD hcd
                 go_simp
                 try rfl
               simp only [Act.put, List.setIfInBounds_toArray, List.set_cons_zero, List.set_cons_succ])
            first
            | (refine Fx.WM.skip 3 (by rfl) (by kernel_rfl) (by kernel_rfl) (by kernel_rfl) (by rfl) (fun g f w h => h.same (by decide)) ?_; simp only [Act.put, List.setIfInBounds_toArray, List.set_cons_zero, List.set_cons_succ])
            | (refine Fx.WM.val_ 3 ?_ (by rfl) (by kernel_rfl) (by kernel_rfl) (by kernel_rfl) (by rfl) ?_ (fun g f w h => h.same (by decide)) ?_
               rotate_left
               · intro g f w' hx hD hk
                 obtain hcd := id hD
                 have y0 := (hcd.bel.cell (p := ⟨tb, to + (j + 1), none⟩) htb1).trans c2
                 clear hx hk hD hcd
                 go_simp
                 try rfl
               simp only [Act.put, List.setIfInBounds_toArray, List.set_cons_zero, List.set_cons_succ])
            first
            | (refine Fx.WM.skip 4 (by rfl) (by kernel_rfl) (by kernel_rfl) (by kernel_rfl) (by rfl) (fun g f w h => h.same (by decide)) ?_; simp only [Act.put, List.setIfInBounds_toArray, List.set_cons_zero, List.set_cons_succ])
            | (refine Fx.WM.val_ 4 ?_ (by rfl) (by kernel_rfl) (by kernel_rfl) (by kernel_rfl) (by rfl) ?_ (fun g f w h => h.same (by decide)) ?_
               rotate_left
               · intro g f w' hx hD hk
                 obtain hcd := id hD
                 have y0 := (hcd.bel.cell (p := ⟨tb, to + (j + 1), none⟩) htb1).trans c2
                 clear hx hk hD hcd
                 go_simp
                 try rfl
               simp only [Act.put, List.setIfInBounds_toArray, List.set_cons_zero, List.set_cons_succ])
            first
            | (refine Fx.WM.skip 5 (by rfl) (by kernel_rfl) (by kernel_rfl) (by kernel_rfl) (by rfl) (fun g f w h => h.same (by decide)) ?_; simp only [Act.put, List.setIfInBounds_toArray, List.set_cons_zero, List.set_cons_succ])
            | (refine Fx.WM.val_ 5 ?_ (by rfl) (by kernel_rfl) (by kernel_rfl) (by kernel_rfl) (by rfl) ?_ (fun g f w h => h.same (by decide)) ?_
               rotate_left
               · intro g f w' hx hD hk
                 obtain hcd := id hD
                 have y0 := (hcd.bel.cell (p := ⟨tb, to + (j + 1), none⟩) htb1).trans c2
                 clear hx hk hD hcd
                 go_simp
                 try rfl
               simp only [Act.put, List.setIfInBounds_toArray, List.set_cons_zero, List.set_cons_succ])
            first
            | (refine Fx.WM.skip 6 (by rfl) (by kernel_rfl) (by kernel_rfl) (by kernel_rfl) (by rfl) (fun g f w h => h.same (by decide)) ?_; simp only [Act.put, List.setIfInBounds_toArray, List.set_cons_zero, List.set_cons_succ])
            | (refine Fx.WM.val_ 6 ?_ (by rfl) (by kernel_rfl) (by kernel_rfl) (by kernel_rfl) (by rfl) ?_ (fun g f w h => h.same (by decide)) ?_
               rotate_left
               · intro g f w' hx hD hk
                 obtain hcd := id hD
                 have y0 := (hcd.bel.cell (p := ⟨tb, to + (j + 1), none⟩) htb1).trans c2
                 clear hx hk hD hcd
                 go_simp
                 try rfl
               simp only [Act.put, List.setIfInBounds_toArray, List.set_cons_zero, List.set_cons_succ])
            first
            | (refine Fx.WM.skip 7 (by rfl) (by kernel_rfl) (by kernel_rfl) (by kernel_rfl) (by rfl) (fun g f w h => h.same (by decide)) ?_; simp only [Act.put, List.setIfInBounds_toArray, List.set_cons_zero, List.set_cons_succ])
            | (refine Fx.WM.val_ 7 ?_ (by rfl) (by kernel_rfl) (by kernel_rfl) (by kernel_rfl) (by rfl) ?_ (fun g f w h => h.same (by decide)) ?_
               rotate_left
               · intro g f w' hx hD hk
                 obtain hcd := id hD
                 have y0 := (hcd.bel.cell (p := ⟨tb, to + (j + 1), none⟩) htb1).trans c2
                 clear hx hk hD hcd
                 go_simp
                 try rfl
               simp only [Act.put, List.setIfInBounds_toArray, List.set_cons_zero, List.set_cons_succ])
            first
            | (refine Fx.WM.skip 9 (by rfl) (by kernel_rfl) (by kernel_rfl) (by kernel_rfl) (by rfl) (fun g f w h => h.same (by decide)) ?_; simp only [Act.put, List.setIfInBounds_toArray, List.set_cons_zero, List.set_cons_succ])
            | (refine Fx.WM.val_ 9 ?_ (by rfl) (by kernel_rfl) (by kernel_rfl) (by kernel_rfl) (by rfl) ?_ (fun g f w h => h.same (by decide)) ?_
               rotate_left
               · intro g f w' hx hD hk
                 obtain hcd := id hD
                 have y0 := (hcd.bel.cell (p := ⟨tb, to + (j + 1), none⟩) htb1).trans c2
                 clear hx hk hD hcd
                 go_simp
                 try rfl
               simp only [Act.put, List.setIfInBounds_toArray, List.set_cons_zero, List.set_cons_succ])
            first
            | (refine Fx.WM.skip 10 (by rfl) (by kernel_rfl) (by kernel_rfl) (by kernel_rfl) (by rfl) (fun g f w h => h.same (by decide)) ?_; simp only [Act.put, List.setIfInBounds_toArray, List.set_cons_zero, List.set_cons_succ])
            | (refine Fx.WM.val_ 10 ?_ (by rfl) (by kernel_rfl) (by kernel_rfl) (by kernel_rfl) (by rfl) ?_ (fun g f w h => h.same (by decide)) ?_
               rotate_left
               · intro g f w' hx hD hk
                 obtain hcd := id hD
                 have y0 := (hcd.bel.cell (p := ⟨tb, to + (j + 1), none⟩) htb1).trans c2
                 clear hx hk hD hcd
                 go_simp
                 try rfl
               simp only [Act.put, List.setIfInBounds_toArray, List.set_cons_zero, List.set_cons_succ])
            first
            | (refine Fx.WM.skip 11 (by rfl) (by kernel_rfl) (by kernel_rfl) (by kernel_rfl) (by rfl) (fun g f w h => h.same (by decide)) ?_; simp only [Act.put, List.setIfInBounds_toArray, List.set_cons_zero, List.set_cons_succ])
            | (refine Fx.WM.val_ 11 ?_ (by rfl) (by kernel_rfl) (by kernel_rfl) (by kernel_rfl) (by rfl) ?_ (fun g f w h => h.same (by decide)) ?_
               rotate_left
               · intro g f w' hx hD hk
                 obtain hcd := id hD
                 have y0 := (hcd.bel.cell (p := ⟨tb, to + (j + 1), none⟩) htb1).trans c2
                 clear hx hk hD hcd
                 go_simp
                 try rfl
               simp only [Act.put, List.setIfInBounds_toArray, List.set_cons_zero, List.set_cons_succ])
            first
            | (refine Fx.WM.skip 12 (by rfl) (by kernel_rfl) (by kernel_rfl) (by kernel_rfl) (by rfl) (fun g f w h => h.same (by decide)) ?_; simp only [Act.put, List.setIfInBounds_toArray, List.set_cons_zero, List.set_cons_succ])
            | (refine Fx.WM.val_ 12 ?_ (by rfl) (by kernel_rfl) (by kernel_rfl) (by kernel_rfl) (by rfl) ?_ (fun g f w h => h.same (by decide)) ?_
               rotate_left
               · intro g f w' hx hD hk
                 obtain hcd := id hD
                 have y0 := (hcd.bel.cell (p := ⟨tb, to + (j + 1), none⟩) htb1).trans c2
                 clear hx hk hD hcd
                 go_simp
                 try rfl
               simp only [Act.put, List.setIfInBounds_toArray, List.set_cons_zero, List.set_cons_succ])
            first
            | (refine Fx.WM.skip 13 (by rfl) (by kernel_rfl) (by kernel_rfl) (by kernel_rfl) (by rfl) (fun g f w h => h.same (by decide)) ?_; simp only [Act.put, List.setIfInBounds_toArray, List.set_cons_zero, List.set_cons_succ])
            | (refine Fx.WM.val_ 13 ?_ (by rfl) (by kernel_rfl) (by kernel_rfl) (by kernel_rfl) (by rfl) ?_ (fun g f w h => h.same (by decide)) ?_
               rotate_left
               · intro g f w' hx hD hk
                 obtain hcd := id hD
                 have y0 := (hcd.bel.cell (p := ⟨tb, to + (j + 1), none⟩) htb1).trans c2
                 clear hx hk hD hcd
                 go_simp
                 try rfl
               simp only [Act.put, List.setIfInBounds_toArray, List.set_cons_zero, List.set_cons_succ])
            first
            | (refine Fx.WM.skip 14 (by rfl) (by kernel_rfl) (by kernel_rfl) (by kernel_rfl) (by rfl) (fun g f w h => h.same (by decide)) ?_; simp only [Act.put, List.setIfInBounds_toArray, List.set_cons_zero, List.set_cons_succ])
            | (refine Fx.WM.val_ 14 ?_ (by rfl) (by kernel_rfl) (by kernel_rfl) (by kernel_rfl) (by rfl) ?_ (fun g f w h => h.same (by decide)) ?_
               rotate_left
               · intro g f w' hx hD hk
                 obtain hcd := id hD
                 have y0 := (hcd.bel.cell (p := ⟨tb, to + (j + 1), none⟩) htb1).trans c2
                 clear hx hk hD hcd
                 go_simp
                 try rfl
               simp only [Act.put, List.setIfInBounds_toArray, List.set_cons_zero, List.set_cons_succ])
            first
            | (refine Fx.WM.skip 15 (by rfl) (by kernel_rfl) (by kernel_rfl) (by kernel_rfl) (by rfl) (fun g f w h => h.same (by decide)) ?_; simp only [Act.put, List.setIfInBounds_toArray, List.set_cons_zero, List.set_cons_succ])
            | (refine Fx.WM.val_ 15 ?_ (by rfl) (by kernel_rfl) (by kernel_rfl) (by kernel_rfl) (by rfl) ?_ (fun g f w h => h.same (by decide)) ?_
               rotate_left
               · intro g f w' hx hD hk
                 obtain hcd := id hD
                 have y0 := (hcd.bel.cell (p := ⟨tb, to + (j + 1), none⟩) htb1).trans c2
                 clear hx hk hD hcd
                 go_simp
                 try rfl
               simp only [Act.put, List.setIfInBounds_toArray, List.set_cons_zero, List.set_cons_succ])
            refine Fx.WM.choose 1 (by rfl) (by kernel_rfl) (by rfl) ?_ ?_
            · skip
              refine Fx.Chooses.make (by rfl) ?_
              intro f w' hD hk
              refine ⟨((some ⟨w'.heap.size, 0, none⟩, 0), (none, 0)), w'.alloc (.cells #[] 3), ?_, ?_⟩
              · clear hk hD
                go_simp
                try rfl
              · exact hD.lit1 hB12 (hk.un 18 16 (by kernel_rfl) (hk.un 16 8 (by kernel_rfl) (hk.2.1 8 (by kernel_rfl)))) (by rfl) (by rfl) (by rfl)
            intro x1
            simp only [Act.put, List.setIfInBounds_toArray, List.set_cons_zero, List.set_cons_succ]
            refine Fx.WM.choose 8 (by rfl) (by kernel_rfl) (by rfl) ?_ ?_
            · skip
              refine Fx.Chooses.make (by rfl) ?_
              intro f w' hD hk
              have h18 : f 18 = false := (hk.un 18 16 (by kernel_rfl) (hk.2.1 16 (by kernel_rfl)))
              obtain ⟨z', w2', hrun, hD2⟩ := CutD.app8 hD hB12 h18 (by rfl) (by rfl) (by rfl) (A := some ⟨rb, ro, none⟩) (c := rc) ((HTK.out.below (hD.pre h18)).more (hD.pre h18).size) (by omega)
              exact ⟨z', w2', exec_append _ _ _ rfl hrun, hD2⟩
            intro x8
            simp only [Act.put, List.setIfInBounds_toArray, List.set_cons_zero, List.set_cons_succ]
            refine Fx.WM.choose 16 (by rfl) (by kernel_rfl) (by rfl) ?_ ?_
            · skip
              refine Fx.Chooses.make (by rfl) ?_
              intro f w' hD hk
              have h18 : f 18 = false := hk.2.1 18 (by kernel_rfl)
              obtain ⟨z', w2', hrun, hD2⟩ := CutD.app16 hD hB12 h18 (by rfl) (by rfl) (by rfl) (by rfl) (A := DA) (c := rc - (k + 1)) ((HDR.out.below (hD.pre h18)).more (hD.pre h18).size) (by omega) (by omega)
              exact ⟨z', w2', exec_append _ _ _ rfl hrun, hD2⟩
            intro x16
            simp only [Act.put, List.setIfInBounds_toArray, List.set_cons_zero, List.set_cons_succ]
            refine Fx.WM.choose 17 (by rfl) (by kernel_rfl) (by rfl) ?_ ?_
            · skip
              refine Fx.Chooses.make (by rfl) ?_
              intro f w' hD hk
              refine ⟨((some ⟨w'.heap.size, 0, none⟩, 1), (none, 0)), w'.alloc (.cells #[.slice x16.1.1 (k + (rn - (k + 1))) x16.1.2] 43), ?_, ?_⟩
              · clear hk hD
                go_simp
                try rfl
              · exact hD.lit17 hB12 (hk.2.1 18 (by kernel_rfl)) (by rfl) (by rfl) (by rfl)
            intro x17
            simp only [Act.put, List.setIfInBounds_toArray, List.set_cons_zero, List.set_cons_succ]
            refine Fx.WM.choose 18 (by rfl) (by kernel_rfl) (by rfl) ?_ ?_
            · skip
              refine Fx.Chooses.make (by rfl) ?_
              intro f w' hD hk
              obtain ⟨z', w2', hrun, hD2⟩ := CutD.app18 hD hB12 HO.out (by omega) hk.1 (by rfl) (by rfl)
              exact ⟨z', w2', exec_append _ _ _ rfl hrun, hD2⟩
            intro x18
            simp only [Act.put, List.setIfInBounds_toArray, List.set_cons_zero, List.set_cons_succ]
            first
            | (refine Fx.WM.skip 19 (by rfl) (by kernel_rfl) (by kernel_rfl) (by kernel_rfl) (by rfl) (fun g f w h => h.same (by decide)) ?_; simp only [Act.put, List.setIfInBounds_toArray, List.set_cons_zero, List.set_cons_succ])
            | (refine Fx.WM.val_ 19 ?_ (by rfl) (by kernel_rfl) (by kernel_rfl) (by kernel_rfl) (by rfl) ?_ (fun g f w h => h.same (by decide)) ?_
               rotate_left
               · intro g f w' hx hD hk
                 obtain hcd := id hD
                 clear hx hk hD hcd
                 go_simp
                 try rfl
               simp only [Act.put, List.setIfInBounds_toArray, List.set_cons_zero, List.set_cons_succ])
            refine Fx.WM.nil (by kernel_rfl) ?_
            intro wz hcd
            have hpost := hcd.post x16 x18 (by rfl) (by rfl)
            have HPOST := Lib.hid hpost
            have HBZ := Lib.hid (HB12'.out.trans hcd.bel)
            clear hpost hcd
            go_wp2
            go_roundw
            case rel =>
              refine ⟨j + 1, ts ++ [⟨x16.1.1, k + (rn - (k + 1)), x16.1.2, rx.take k ++ rx.drop (k + 1)⟩], by omega, by go_num, HBZ.out, ?_, fun r hr => ?_, HPOST.out⟩
              · rw [List.map_append, HTS.out, cutRows_succ HRR.out]
                rfl
              · rcases List.mem_append.1 hr with hr | hr
                · exact HRN.out r hr
                · obtain rfl : r = _ := by simpa using hr
                  show k + (rn - (k + 1)) = n
                  have := HNN.out
                  omega
            case measure => simp [intOf]; omega
          · obtain rfl : n = j := by omega
            have hcol : ts.map TRow.xs = minorM k M := by rw [HTS.out, cutRows_all (by have := HNN.out; have := HL.out; omega), HM.out]
            obtain ⟨w1', w2', w3', w4'⟩ := HOK.out k hlt
            obtain ⟨d, hd⟩ : ∃ d, detR n (minorM k M) = d := ⟨_, rfl⟩
            have hsu := detTo_succ n M k
            rw [hd] at w2' hsu
            rw [hsu] at w3'
            obtain ⟨tb, to, r, rfl, htb, hr, c0, -, hrl, hrr⟩ := HX.out.at_ hN0
            simp only [Nat.add_zero] at c0
            have hrN := HSQ.out r (List.mem_of_getElem? hr)
            obtain ⟨rA, rn, rc, rx⟩ := r
            simp only at c0 hrl hrr hrN
            subst hrN
            obtain ⟨rb, ro, x, rfl, hrb, hx, g0⟩ := hrr.int_ hlt
            have hxx : (M.headD []).getD k 0 = x := by
              have h1 : M.headD [] = rx := by
                rw [← HM.out]
                match t, hr with
                | a :: l, hr => obtain rfl : a = _ := by simpa using hr
                                rfl
              rw [h1, List.getD_eq_getElem?_getD, hx]
              rfl
            rw [hxx] at w1' w2' w3' hsu
            obtain ⟨S, hS⟩ : ∃ S, detTo n M k = S := ⟨_, rfl⟩
            obtain ⟨G, hG⟩ : ∃ G, sgn k = G := ⟨_, rfl⟩
            have hgi := sgn_in k
            have hgs := sgn_succ k
            rw [hG] at w1' w2' w3' hsu hgi hgs ⊢
            rw [hS] at w3' hsu ⊢
            unfold InW at w1' w2' w3'
            have v1 := IntWalk.i64_in (G * x) ⟨by omega, by omega⟩
            have v2 := IntWalk.i64_in (G * x * d) ⟨by omega, by omega⟩
            have v3 := IntWalk.i64_in (S + G * x * d) ⟨by omega, by omega⟩
            have v4 := IntWalk.i64_in (-G) ⟨by omega, by omega⟩
            obtain ⟨A3, c3, rfl, -⟩ := own_reads HO.out.row
            have hra := HO.out.at_
            have HRA := Lib.hid hra
            have HSU := Lib.hid hsu
            have HGS := Lib.hid hgs
            have HD := Lib.hid hd
            have HCOL := Lib.hid hcol
            have HW4 := Lib.hid w4'
            have c2 := (HBW2.out.cell (p := ⟨tb, to, none⟩) htb).trans c0
            have g2 := (HBW2.out.cell (p := ⟨rb, ro + k, none⟩) hrb).trans g0
            have hsz2 := HBW2.out.size
            have htb2 : tb < w2.heap.size := by omega
            have hrb2 : rb < w2.heap.size := by omega
            have hbw := HBW2.out
            have hge : ¬ ((n : Int) + 1 < (rn : Int)) := by have := HNN.out; omega
            have hge' : ¬ (n + 1 < rn) := by have := HNN.out; omega
            clear hcol w1' w2' w3' w4' hd hsu hr hrl hrr hx hxx hS hG hgi hgs hra c0 g0
            go_wp2_with fail
            have HB2 := Lib.hid hbw
            clear hbw
            refine Fx.regionW (fun W f w' => Below W.heap.size W w') (by kernel_rfl) (by kernel_rfl) ?_ ?_
            · intro f hf0
              exact below_drewN (Below.refl _ _) 1
            repeat (first
              | (refine Fx.skip_ (by rfl) (fun f w h => h) ?_; simp only [Act.put, List.setIfInBounds_toArray, List.set_cons_zero, List.set_cons_succ])
              | (refine Fx.val_ ?_ (by rfl) ?_ (fun f w h => h) ?_
                 rotate_left
                 · intro f w' hD hk
                   have hb := hD
                   have x8 := (hb.cell (p := ⟨tb, to, none⟩) htb2).trans c2
                   have x9 := (hb.cell (p := ⟨rb, ro + k, none⟩) hrb2).trans g2
                   clear hk hD hb
                   go_simp
                   try rfl
                 simp only [Act.put, List.setIfInBounds_toArray, List.set_cons_zero, List.set_cons_succ]))
            refine Fx.call_ (.int .i64 (d)) ?_ ?_ (by rfl) ?_ ?_ ?_
            rotate_left 2
            · intro w'
              go_simp
              refine ⟨?_, ?_⟩ <;> rfl
            · intro f w' hD hk
              exact (IH.out A3 c3 ts d (by rw [HCOL.out]; exact HD.out) (by rw [HCOL.out]; exact HW4.out) HRN.out w' ((HRA.out.below hD).more hD.size) (by omega)).mono fun e w'' ⟨he, hw⟩ => ⟨he, step_below hw hD⟩
            simp only [Act.put, List.setIfInBounds_toArray, List.set_cons_zero, List.set_cons_succ]
            repeat (first
              | (refine Fx.skip_ (by rfl) (fun f w h => h) ?_; simp only [Act.put, List.setIfInBounds_toArray, List.set_cons_zero, List.set_cons_succ])
              | (refine Fx.val_ ?_ (by rfl) ?_ (fun f w h => h) ?_
                 rotate_left
                 · intro f w' hD hk
                   have hb := hD
                   have x8 := (hb.cell (p := ⟨tb, to, none⟩) htb2).trans c2
                   have x9 := (hb.cell (p := ⟨rb, ro + k, none⟩) hrb2).trans g2
                   clear hk hD hb
                   go_simp
                   try rfl
                 simp only [Act.put, List.setIfInBounds_toArray, List.set_cons_zero, List.set_cons_succ]))
            refine Fx.nil_ ?_
            intro f w3 hall hb
            try clear hall
            have HB23 := Lib.hid hb
            have HB3 := Lib.hid (show Below w.heap.size w w3 from step_below hb (by repeat' (first | exact Below.refl _ _ | exact HB2.out | refine below_drewN ?_ _ | refine Below.drew ?_ | refine Below.alloc ?_ (by first | omega | (simp; done) | (simp; omega) | (simp [World.setCell]; omega)) _ | refine Below.setCell ?_ (by first | omega | (simp; done) | (simp; omega)) _ | assumption)))
            have hz3 := hb.size
            try simp only [World.size_alloc, World.drewN, World.drew] at hz3
            clear hb
            go_wp2
            go_roundw
            case rel => exact ⟨k + 1, by omega, by rw [HSU.out], by rw [HGS.out], by go_num, HB3.out⟩
            case measure => simp [intOf]; omega
      · obtain rfl : N = k := by omega
        rw [HV.out]
        go_wp2
        go_ret
        exact ⟨rfl, HB1'.out⟩
end Go.Proofs.Ytdidcpealabaiaa

end
