import Derived.Test.YtclnffpfbngjoaaQ17
import Derived.Test.YtclnffpfbngjoaaQ14

section
/- The contract of the best model of stars. -/
namespace Go.Proofs.Ytclnffpfbngjoaa
open Go Go.RowKit

theorem share3 {Fact : Nat → Nat → World → Prop} {G : Prop} {F : Nat → Nat → World → Prop} (main : (∀ a b w, Fact a b w → F a b w) → G) (rest : ∀ a b w, Fact a b w → F a b w) : G := main rest

/-- The right side, so far: whole below i, of q stars at i. -/
def rgtV (l : List Star) (i q : Nat) (j : Nat) : Value := if j < i then .int .i64 (rgtTo l l.length j) else if j = i then .int .i64 (rgtTo l q j) else .int .i64 0
/-- The columns so far: the blocks of the first i. -/
def colV (d : Nat → Nat) (N i : Nat) (j : Nat) : Value := if j < i then .slice (some ⟨d j, 0, none⟩) N N else .slice none 0 0
def rowQ (l : List Star) (i q k : Nat) (j : Nat) : Value := if j < k then .int .i64 (nrmTo l (q + 1) i j) else .int .i64 (nrmTo l q i j)

theorem eq_nil_ll (A : Option Addr) (n c : Nat) (w : World) : (Op.equalIn 10000 41 (.slice A n c) (.slice none 0 0)).run Try.prog w = .ok A.isNone w := by
  show (Op.equalIn (9999 + 1) _ _ _).run _ w = _
  rw [Op.equalIn.eq_def]
  cases A <;> simp [Sem.run_bind, run_underlying Try.underlying41]
@[go_sem ↓ high] theorem eql_nil_ll (A : Option Addr) (n c : Nat) (w : World) : (binOp .eql 41 (.slice A n c) (.slice none 0 0)).run Try.prog w = .ok (.bool A.isNone) w := by
  simp only [binOp]
  simp [Op.equal, Op.maxDepth, eq_nil_ll]
set_option maxRecDepth 100000 in
theorem clonell_any (A : Option Addr) (n c N : Nat) (l : List Value) (w : World) (hx : Reads w N 1 A n l) (hN : N ≤ w.heap.size) (hn : n ≤ 100000) (h1 : ∀ u ∈ l, u.oneCell' = true) :
    Calls Try.prog 32 #[.slice A n c] w (CopyPost w 31 1 n l) := by
  cases A with
  | none =>
    have hn0 : n = 0 := by
      rcases Nat.eq_zero_or_pos n with h | h
      · exact h
      · obtain ⟨_, _, e, _⟩ := hx.2 h
        cases e
    subst hn0
    have hl : l = [] := List.length_eq_zero_iff.1 (by simpa using hx.1)
    subst hl
    clear hx
    go_enter Try.func32, Try.ntmps32
    go_wp2
    go_ret
    exact ⟨none, 0, rfl, Below.refl _ _, Reads.none_, World.ownsRow_nil _ _ _ _⟩
  | some a =>
    obtain ⟨v', W2, hrun, ho, hb⟩ := copy_run (P := Try.prog) 41 41 31 _ 1 24 Try.underlying41 info_ints rfl (by omega) w N (some a) n c l hx hN h1 (by unfold maxLen; omega) (by omega)
    have HRUN := Lib.hid hrun
    have HO := Lib.hid ho
    have HB := Lib.hid hb
    clear hrun ho hb hx
    go_enter Try.func32, Try.ntmps32
    go_wp2_with (first | (at_builtin; refine wpList_app _ W2 v' rfl _ _ _ rfl _ _ rfl rfl HRUN.out ?_))
    go_ret
    exact CopyPost.of HO.out HB.out
/-- A fresh list of one-cell elements lies in a block of its own. -/
theorem own_block1 {w : World} {base n c : Nat} {A : Option Addr} {e : TypeId} {l : List Value} (h : w.ownsRow base e 1 (.slice A n c) n l) (hn : 0 < n) :
    ∃ g ext, A = some ⟨g, 0, none⟩ ∧ base ≤ g ∧ n ≤ c ∧ Blk w g e (l ++ ext).toArray := by
  rcases h.2 with ⟨_, e⟩ | ⟨g, cap, cur, hv, hb, hh, hc, -, hs, ht⟩
  · omega
  · obtain ⟨rfl, -, rfl⟩ : A = some ⟨g, 0, none⟩ ∧ n = n ∧ c = cap := by simpa using hv
    refine ⟨g, cur.toList.drop n, rfl, hb, hc, ?_⟩
    unfold Blk
    rw [hh, ← ht, Nat.mul_one, List.take_append_drop, Array.toArray_toList]
/-- A table that lies in a known block, whose lists lie in memory that is as it was. -/
theorem tab_of {w w' : World} {M g n : Nat} {e : TypeId} {t : List TRow} {ext : List Value} (hk : Blk w' g e (t.map TRow.val ++ ext).toArray) (hl : t.length = n) (hr : ∀ r ∈ t, (r.n ≤ r.c ∧ r.c ≤ 9223372036854775807) ∧ Reads w M 1 r.A r.n (r.xs.map (.int .i64))) (hb : Below M w w') (hM : M ≤ w'.heap.size) :
    ReadsT w' w'.heap.size (some ⟨g, 0, none⟩) n t := by
  refine ⟨⟨by simp [hl], fun _ => ⟨g, 0, rfl, hk.lt, fun i v hv => ?_⟩⟩, fun r h => ⟨(hr r h).1, ((hr r h).2.below hb).more hM⟩⟩
  rw [Nat.zero_add, hk.cell i, List.getElem?_toArray, List.getElem?_append_left (List.getElem?_eq_some_iff.1 hv).1, hv]
theorem row_one (t : List TRow) : ∀ u ∈ t.map TRow.val, u.oneCell' = true := by
  intro u hu
  obtain ⟨r, -, rfl⟩ := List.mem_map.1 hu
  rfl

theorem gcd_bound {D E g : Int} (hd : g ∣ D) (hn : D ≠ 0) (hD : InB 3000000000000000000 D) (hE : InB 3000000000000000000 E) :
    (-9223372036854775808 ≤ g ∧ g ≤ 9223372036854775807) ∧ (-9223372036854775808 ≤ E ∧ E ≤ 9223372036854775807) ∧ wrap64 (Int.gcd g E : Int) = (Int.gcd g E : Int) := by
  have h1 := Nat.le_of_dvd (Int.natAbs_pos.2 hn) (Int.natAbs_dvd_natAbs.2 hd)
  have hg : g ≠ 0 := by
    rintro rfl
    exact hn (Int.zero_dvd.1 hd)
  have h2 := Nat.le_of_dvd (Int.natAbs_pos.2 hg) (Int.natAbs_dvd_natAbs.2 (Int.gcd_dvd_left g E))
  unfold InB at hD hE
  refine ⟨⟨by omega, by omega⟩, ⟨by omega, by omega⟩, IntWalk.wrap64_in _ ⟨by omega, by omega⟩⟩

def FitPost (l : List Star) (w : World) (e : Ending) (w' : World) : Prop :=
  ∃ A c, e = .returned (.tuple #[.agg #[.slice A (fitF l).1.1.length c, .int .i64 (fitF l).1.2], .int .i64 (fitF l).2]) ∧ Below w.heap.size w w' ∧ Reads w' w'.heap.size 1 A (fitF l).1.1.length ((fitF l).1.1.map (.int .i64)) ∧ ∀ b o, A = some ⟨b, o, none⟩ → w.heap.size ≤ b

theorem FitPost.mk' {l : List Star} {w w' : World} {e : Ending} {T : List Int} {D E : Int} {A : Option Addr} {c : Nat} (h : fitF l = ((T, D), E)) (he : e = .returned (.tuple #[.agg #[.slice A T.length c, .int .i64 D], .int .i64 E])) (hb : Below w.heap.size w w') (hr : Reads w' w'.heap.size 1 A T.length (T.map (.int .i64))) (hA : ∀ b o, A = some ⟨b, o, none⟩ → w.heap.size ≤ b) : FitPost l w e w' := by
  unfold FitPost
  rw [h]
  exact ⟨A, c, he, hb, hr, hA⟩
theorem fitF_zero {l : List Star} {N : Nat} (hN : termsN l = N) (h : detM (fitM l N) = 0) : fitF l = (([], 0), 11) := by
  unfold fitF
  rw [hN, if_pos h]

theorem div_inb {D G b : Int} (h : InB b D) : InB b (D / G) := by
  have h1 : (D / G).natAbs ≤ D.natAbs := by first | exact Int.natAbs_ediv_le_natAbs D G | exact Int.natAbs_div_le_natAbs D G
  unfold InB at *
  omega
theorem lit_run {P : Program} (t ty e : TypeId) (z : Value) (size bytes : Nat) (ht : P.underlying t = some (.slice e)) (hi : (P.info? e).map (fun i => (i.zero, i.size, i.bytes)) = some (some z, size, bytes)) (hzs : z.cells.size = size) (hsz : 0 < size)
    (w : World) (us : List Value) (k : Nat) (hk : us.length = k * size) (h0 : 0 < k) (N : Nat) (A : Option Addr) (n c : Nat) (xs : List Value) (hr : Reads w N size A n xs) (hN : N ≤ w.heap.size) (h1 : ∀ u ∈ xs, u.oneCell' = true) (hn : k + n ≤ maxLen) (hbytes : (k + n) * bytes ≤ 140737488355328) :
    ∃ v' W2, (Builtin.append_ #[t, t] ty #[.slice (some ⟨w.heap.size, 0, none⟩) k k, .slice A n c]).run P (w.alloc (.cells us.toArray e)) = .ok v' W2 ∧ W2.ownsRow w.heap.size e size v' (k + n) (us ++ xs) ∧ Below w.heap.size w W2 := by
  obtain ⟨i0, hi0, hz0, hz1, hz2⟩ := info_parts hi
  have hm : k ≤ maxLen := by omega
  have ho : (w.alloc (.cells us.toArray e)).ownsRow w.heap.size e size (.slice (some ⟨w.heap.size, 0, none⟩) k k) k us :=
    ⟨by rw [hk], .inr ⟨w.heap.size, k, us.toArray, rfl, Nat.le_refl _, Blk.new _ _ _, Nat.le_refl _, by unfold maxLen at *; omega, by simp [hk], by rw [← hk, List.take_length]⟩⟩
  obtain ⟨v', W2, hrun, ho2, hg, -⟩ := run_append_any (P := P) (w.alloc (.cells us.toArray e)) w.heap.size t ty e i0 z size bytes ht hi0 hz0 hz1 hz2 hzs hsz _ k us ho N A n c xs (hr.alloc hN _) h1 hn hbytes (by simp)
  exact ⟨v', W2, hrun, ho2, ((Below.refl _ _).alloc (Nat.le_refl _) _).grown hg (by simp) (fun k hk => (own_lt ho hk).1)⟩
theorem Reads.take_ext {w : World} {g n : Nat} {t : TypeId} {xs ext : List Value} (h : Blk w g t (xs ++ ext).toArray) (hn : xs.length = n) : Reads w w.heap.size 1 (some ⟨g, 0, none⟩) n xs :=
  ⟨by omega, fun _ => ⟨g, 0, rfl, h.lt, fun i v hv => by rw [Nat.zero_add, h.cell i, List.getElem?_toArray, List.getElem?_append_left (List.getElem?_eq_some_iff.1 hv).1, hv]⟩⟩
theorem fitT_in {l : List Star} {N : Nat} (h1 : 1 ≤ N) (h3 : N ≤ 3) (hl : l.length ≤ 20) (h : ∀ s ∈ l, starErr N s = 0) : ∀ z ∈ fitT l N, InB 3000000000000000000 z := by
  intro z hz
  obtain ⟨p, -, rfl⟩ := List.mem_map.1 hz
  exact (fit_det_at h1 h3 hl h).2
theorem fitF_rest {l : List Star} {N : Nat} {D G : Int} {F : List Int} (hN : termsN l = N) (hD : detM (fitM l N) = D) (hF : fitT l N = F) (hG : gcdF D F = G) (h0 : D ≠ 0) :
    fitF l = if smallL 1000000000000 (D / G :: F.map (· / G)) = false then (([], 0), 8) else ((F.map (· / G), D / G), 0) := by
  unfold fitF fitG
  rw [hN, hD, hF, hG, if_neg h0]
/-- Terms of which the first k are divided. -/
def divTo (F : List Int) (G : Int) (k : Nat) : List Int := (F.take k).map (· / G) ++ F.drop k
theorem divTo_len (F : List Int) (G : Int) (k : Nat) : (divTo F G k).length = F.length := by unfold divTo; simp; omega
theorem divTo_at {F : List Int} {G : Int} {k : Nat} {z : Int} (h : F[k]? = some z) : (divTo F G k)[k]? = some z := by
  have hk : k < F.length := (List.getElem?_eq_some_iff.1 h).1
  unfold divTo
  rw [List.getElem?_append_right (by simp; omega), List.length_map, List.length_take, Nat.min_eq_left (by omega), Nat.sub_self, List.getElem?_drop]
  simpa using h
theorem divTo_succ {F : List Int} {G : Int} {k : Nat} {z : Int} (h : F[k]? = some z) : (divTo F G k).set k (z / G) = divTo F G (k + 1) := by
  have hk : k < F.length := (List.getElem?_eq_some_iff.1 h).1
  have hz : F[k] = z := (List.getElem?_eq_some_iff.1 h).2
  unfold divTo
  rw [List.set_append_right _ _ (by simp; omega), List.length_map, List.length_take, Nat.min_eq_left (by omega), Nat.sub_self, List.drop_eq_getElem_cons hk, hz, List.take_add_one, h]
  simp
theorem divTo_zero (F : List Int) (G : Int) : divTo F G 0 = F := rfl
theorem divTo_all {F : List Int} {G : Int} {N : Nat} (h : F.length = N) : divTo F G N = F.map (· / G) := by
  unfold divTo
  rw [← h, List.take_length, List.drop_length, List.append_nil]

set_option maxRecDepth 100000 in
set_option maxHeartbeats 16000000 in
theorem pfit_any (l : List Star) (A : Option Addr) (n c : Nat) (hE : (starsF l).2 = 0) (w : World) (hx : StarsAt l A n w) :
    Calls Try.prog 13 #[.slice A n c] w (FitPost l w) := by
  have hl := hx.len
  obtain ⟨⟨T, E⟩, hS⟩ : ∃ z, starsF l = z := ⟨_, rfl⟩
  rw [hS] at hE
  simp only at hE
  subst hE
  obtain ⟨s1, s2, s3, s4⟩ := stars_right hS rfl
  subst s3
  obtain ⟨N, hN⟩ : ∃ N, termsN l = N := ⟨_, rfl⟩
  rw [hN] at hS s4
  have hNr : 1 ≤ N ∧ N ≤ 3 := by
    obtain ⟨s, hs⟩ := List.exists_mem_of_length_pos (show 0 < l.length by omega)
    obtain ⟨-, h1, h2, -⟩ := star_right (s4 s hs)
    exact ⟨h1, h2⟩
  obtain ⟨n1, n3⟩ := hNr
  rw [hl] at s1 s2
  have HX := Lib.hid hx
  have HL := Lib.hid hl
  have HS := Lib.hid hS
  have HSR := Lib.hid s4
  have HN := Lib.hid hN
  have hmkc : ∀ w : World, (Instr.makeSlice 41 (.int .i64 (N : Int)) (.int .i64 (N : Int))).run Try.prog w = .ok (.slice (some ⟨w.heap.size, 0, none⟩) N N) (w.alloc (.cells ((List.range N).map fun _ => Value.slice none 0 0).toArray 31)) := fun w => by
    obtain ⟨i0, hi0, hz0, hz1, hz2⟩ := info_parts info_ints
    have := run_make_rowN (P := Try.prog) 41 31 i0 _ Try.underlying41 hi0 hz0 .i64 .i64 N N (Nat.le_refl _) (by rw [hz2]; omega) (by omega) w
    rw [this, hz1, Nat.mul_one]
    rw [show (Value.slice none 0 0).cells = #[.slice none 0 0] from rfl, made_one]
  have hmki : ∀ w : World, (Instr.makeSlice 31 (.int .i64 (N : Int)) (.int .i64 (N : Int))).run Try.prog w = .ok (.slice (some ⟨w.heap.size, 0, none⟩) N N) (w.alloc (.cells ((List.range N).map fun _ => Value.int .i64 0).toArray 3)) := fun w => by
    obtain ⟨i0, hi0, hz0, hz1, hz2⟩ := info_parts info_int
    have := run_make_rowN (P := Try.prog) 31 3 i0 _ Try.underlying31 hi0 hz0 .i64 .i64 N N (Nat.le_refl _) (by rw [hz2]; omega) (by omega) w
    rw [this, hz1, Nat.mul_one]
    rw [show (Value.int .i64 0).cells = #[.int .i64 0] from rfl, made_one]
  clear hx hl hS s4 hN
  go_enter Try.func13, Try.ntmps13
  go_wp2_with fail
  refine (pstars_is l A n c (N : Int) 0 HS.out _ (HX.out.lay (by repeat' (first | exact Below.refl _ _ | refine below_drewN ?_ _ | refine Below.drew ?_ | refine Below.alloc ?_ (by first | omega | (simp; done) | (simp; omega) | (simp [World.setCell]; omega)) _ | refine Below.setCell ?_ (by first | omega | (simp; done) | (simp; omega)) _))) (by omega)).mono ?_
  rintro e w1 ⟨rfl, hb⟩
  have HB1 := Lib.hid (show Below w.heap.size w w1 from step_below hb (by repeat' (first | exact Below.refl _ _ | exact HB0.out | refine below_drewN ?_ _ | refine Below.drew ?_ | refine Below.alloc ?_ (by first | omega | (simp; done) | (simp; omega) | (simp [World.setCell]; omega)) _ | refine Below.setCell ?_ (by first | omega | (simp; done) | (simp; omega)) _ | assumption)))
  have K0_1 := Lib.hid (step_blk hb (show Blk _ (w.heap.size) 48 #[.slice none 0 0, .int .i64 (0)] by repeat' (first | exact Blk.at_ _ (by first | rfl | (simp; done) | (simp; omega)) _ _ | refine Blk.drewN ?_ _ | refine Blk.drew ?_ | refine Blk.alloc ?_ _ | refine Blk.far ?_ (by first | omega | (simp; done) | (simp; omega)) _ | assumption)))
  have hz1 := hb.size
  try simp only [World.size_alloc, World.drewN, World.drew] at hz1
  clear hb
  have l0_1 : w.heap.size < w1.heap.size := K0_1.out.lt
  have z0_0_1 : w1.cell? ⟨w.heap.size, 0, none⟩ = some (.slice none 0 0) := K0_1.out.cell 0
  have z0_1_1 : w1.cell? ⟨w.heap.size, 1, none⟩ = some (.int .i64 (0)) := K0_1.out.cell 1
  go_wp2
  apply share3 (Fact := fun cb rb wz => cb ≠ rb ∧ w1.heap.size ≤ cb ∧ w1.heap.size ≤ rb ∧ Below w1.heap.size w1 wz ∧ RB wz cb 31 N (fun _ => .slice none 0 0) ∧ RB wz rb 3 N (fun _ => .int .i64 0))
  · intro key
    go_region
    · generalize hwz : (World.drew _) = wz
      have h1 : RB wz w1.heap.size 31 N (fun _ => .slice none 0 0) := by rw [← hwz]; exact ((Blk.at_ _ rfl _ _).alloc _).drew
      have h2 : RB wz (w1.heap.size + 1) 3 N (fun _ => .int .i64 0) := by rw [← hwz]; exact (Blk.at_ _ (by simp) _ _).drew
      have h3 : Below w1.heap.size w1 wz := by rw [← hwz]; repeat' (first | exact Below.refl _ _ | refine below_drewN ?_ _ | refine Below.drew ?_ | refine Below.alloc ?_ (by first | omega | (simp; done) | (simp; omega) | (simp [World.setCell]; omega)) _ | refine Below.setCell ?_ (by first | omega | (simp; done) | (simp; omega)) _)
      clear hwz
      generalize hrb : w1.heap.size + 1 = rb at h2 ⊢
      generalize hcb : w1.heap.size = cb at h1 ⊢
      exact key cb rb wz ⟨by omega, by omega, by omega, h3, h1, h2⟩
    · generalize hwz : (World.drew _) = wz
      have h1 : RB wz (w1.heap.size + 1) 31 N (fun _ => .slice none 0 0) := by rw [← hwz]; exact (Blk.at_ _ (by simp) _ _).drew
      have h2 : RB wz w1.heap.size 3 N (fun _ => .int .i64 0) := by rw [← hwz]; exact ((Blk.at_ _ rfl _ _).alloc _).drew
      have h3 : Below w1.heap.size w1 wz := by rw [← hwz]; repeat' (first | exact Below.refl _ _ | refine below_drewN ?_ _ | refine Below.drew ?_ | refine Below.alloc ?_ (by first | omega | (simp; done) | (simp; omega) | (simp [World.setCell]; omega)) _ | refine Below.setCell ?_ (by first | omega | (simp; done) | (simp; omega)) _)
      clear hwz
      generalize hcb : w1.heap.size + 1 = cb at h1 ⊢
      generalize hrb : w1.heap.size = rb at h2 ⊢
      exact key cb rb wz ⟨by omega, by omega, by omega, h3, h1, h2⟩
  rintro cb rb w2 ⟨hcr, hcb, hrb, hb, hcol, hrow⟩
  have hlcb := hcol.lt
  have hlrb := hrow.lt
  have HCOL := Lib.hid hcol
  have HROW := Lib.hid hrow
  clear hcol hrow
  have HB2 := Lib.hid (show Below w.heap.size w w2 from step_below hb (by repeat' (first | exact Below.refl _ _ | exact HB1.out | refine below_drewN ?_ _ | refine Below.drew ?_ | refine Below.alloc ?_ (by first | omega | (simp; done) | (simp; omega) | (simp [World.setCell]; omega)) _ | refine Below.setCell ?_ (by first | omega | (simp; done) | (simp; omega)) _ | assumption)))
  have K0_2 := Lib.hid (step_blk hb (show Blk _ (w.heap.size) 48 #[.slice none 0 0, .int .i64 (0)] by repeat' (first | exact K0_1.out | exact Blk.at_ _ (by first | rfl | (simp; done) | (simp; omega)) _ _ | refine Blk.drewN ?_ _ | refine Blk.drew ?_ | refine Blk.alloc ?_ _ | refine Blk.far ?_ (by first | omega | (simp; done) | (simp; omega)) _ | assumption)))
  have hz2 := hb.size
  try simp only [World.size_alloc, World.drewN, World.drew] at hz2
  clear hb K0_1 z0_0_1 z0_1_1 l0_1
  have l0_2 : w.heap.size < w2.heap.size := K0_2.out.lt
  have z0_0_2 : w2.cell? ⟨w.heap.size, 0, none⟩ = some (.slice none 0 0) := K0_2.out.cell 0
  have z0_1_2 : w2.cell? ⟨w.heap.size, 1, none⟩ = some (.int .i64 (0)) := K0_2.out.cell 1
  go_wp2
  go_loopw [31] (fun i wr => ∃ (k : Nat) (d : Nat → Nat), k ≤ N ∧ i = .int .i64 k ∧ Tch (fun q => q = cb ∨ q = rb) w2 wr ∧ RB wr cb 31 N (colV d N k) ∧ RB wr rb 3 N (rgtV l k 0) ∧ (∀ j, j < k → w2.heap.size ≤ d j ∧ RB wr (d j) 3 N (fun a => .int .i64 (nrmTo l l.length j a)))) (fun i _ => N - (intOf i).toNat)
  case atStart => exact ⟨0, fun _ => 0, by omega, rfl, Tch.refl _ _, HCOL.out.congr (fun j _ => by unfold colV; rw [if_neg (by omega)]), HROW.out.congr (fun j _ => by unfold rgtV; rw [if_neg (by omega)]; split <;> rfl), fun j hj => absurd hj (by omega)⟩
  case round =>
    obtain ⟨k, d, hkN, rfl, ht, hcol, hrow, hfin⟩ := hrel
    obtain ⟨w3, hnm⟩ : ∃ z : World, z = wr := ⟨_, rfl⟩
    subst hnm
    have HT := Lib.hid ht
    have HC := Lib.hid hcol
    have HR := Lib.hid hrow
    have HF := Lib.hid hfin
    have hts := ht.size
    clear ht hcol hrow hfin
    by_cases hlt : k < N
    rotate_left
    · obtain rfl : N = k := by omega
      obtain ⟨t, ht, htm⟩ : ∃ t, ReadsT w3 w3.heap.size (some ⟨cb, 0, none⟩) N t ∧ t.map TRow.xs = fitM l N := by
        refine ⟨(List.range N).map fun j => ⟨some ⟨d j, 0, none⟩, N, N, colL l N j⟩, ⟨?_, ?_⟩, ?_⟩
        · have := (HC.out.congr (f' := fun j => .slice (some ⟨d j, 0, none⟩) N N) (fun j hj => by unfold colV; rw [if_pos hj])).reads
          rw [List.map_map]; exact this
        · intro r hr
          obtain ⟨j, hj, rfl⟩ := List.mem_map.1 hr
          have hj := List.mem_range.1 hj
          refine ⟨⟨Nat.le_refl _, by show N ≤ _; omega⟩, ?_⟩
          have := (HF.out j hj).2.reads
          show Reads _ _ _ _ _ ((colL l N j).map _)
          rw [colL, List.map_map]; exact this
        · rw [List.map_map]; rfl
      have hrg : Reads w3 w3.heap.size 1 (some ⟨rb, 0, none⟩) N ((rgtL l N).map (.int .i64)) := by
        have := (HR.out.congr (f' := fun j => .int .i64 (rgtTo l l.length j)) (fun j hj => by unfold rgtV; rw [if_pos hj])).reads
        rw [rgtL, List.map_map]; exact this
      have hb3 : Below w.heap.size w w3 := HB2.out.trans (HT.out.below (B := w.heap.size) (fun q hq => by rcases hq with rfl | rfl <;> omega) (by omega))
      have hk3 : Blk w3 w.heap.size 48 #[.slice none 0 0, .int .i64 0] := HT.out.blk K0_2.out (by rintro (h | h) <;> omega)
      have hdet := (fit_det n1 n3 (by have := HL.out; omega) HSR.out).1
      have hdin := (fit_det n1 n3 (by have := HL.out; omega) HSR.out).2
      obtain ⟨D, hD⟩ : ∃ D, detM (fitM l N) = D := ⟨_, rfl⟩
      rw [hD, ← htm] at hdet
      rw [hD] at hdin
      have HD := Lib.hid hD
      have HDT := Lib.hid hdet
      have HDI := Lib.hid hdin
      have HTM := Lib.hid htm
      clear hD hdet hdin htm HF HR HC
      have hsz3 : w2.heap.size ≤ w3.heap.size := hts
      have HB3 := Lib.hid hb3
      have K0_3 := Lib.hid (show Blk w3 (w.heap.size) 48 #[.slice none 0 0, .int .i64 (0)] from hk3)
      clear hb3 hk3
      have l0_3 : w.heap.size < w3.heap.size := K0_3.out.lt
      have z0_0_3 : w3.cell? ⟨w.heap.size, 0, none⟩ = some (.slice none 0 0) := K0_3.out.cell 0
      have z0_1_3 : w3.cell? ⟨w.heap.size, 1, none⟩ = some (.int .i64 (0)) := K0_3.out.cell 1
      have HRT := Lib.hid ht
      have HRG := Lib.hid hrg
      have HA3 := Lib.hid (show Below w3.heap.size w3 w3 from Below.refl _ _)
      have R0_3 := Lib.hid ht
      clear ht
      have R1_3 := Lib.hid hrg
      clear hrg
      go_wp2_with fail
      refine (pdet_is _ N N t D HDT.out _ R0_3.out).mono ?_
      rintro e w4 ⟨rfl, hb⟩
      have HB4 := Lib.hid (show Below w.heap.size w w4 from step_below hb (by repeat' (first | exact Below.refl _ _ | exact HB3.out | refine below_drewN ?_ _ | refine Below.drew ?_ | refine Below.alloc ?_ (by first | omega | (simp; done) | (simp; omega) | (simp [World.setCell]; omega)) _ | refine Below.setCell ?_ (by first | omega | (simp; done) | (simp; omega)) _ | assumption)))
      have K0_4 := Lib.hid (step_blk hb (show Blk _ (w.heap.size) 48 #[.slice none 0 0, .int .i64 (0)] by repeat' (first | exact K0_3.out | exact Blk.at_ _ (by first | rfl | (simp; done) | (simp; omega)) _ _ | refine Blk.drewN ?_ _ | refine Blk.drew ?_ | refine Blk.alloc ?_ _ | refine Blk.far ?_ (by first | omega | (simp; done) | (simp; omega)) _ | assumption)))
      have hL4 := Lib.hid (show Below w3.heap.size w3 _ from reads_mid hb (by repeat' (first | exact Below.refl _ _ | refine below_drewN ?_ _ | refine Below.drew ?_ | refine Below.alloc ?_ (by first | omega | (simp; done) | (simp; omega) | (simp [World.setCell]; omega)) _ | refine Below.setCell ?_ (by first | omega | (simp; done) | (simp; omega)) _)))
      have R0_4 := Lib.hid (readsT_lay hb hL4.out R0_3.out)
      have R1_4 := Lib.hid (reads_lay hb hL4.out R1_3.out)
      clear hL4 R0_3 R1_3
      have HA4 := Lib.hid (step_below hb HA3.out)
      clear HA3
      have hz4 := hb.size
      try simp only [World.size_alloc, World.drewN, World.drew] at hz4
      clear hb K0_3 z0_0_3 z0_1_3 l0_3
      have l0_4 : w.heap.size < w4.heap.size := K0_4.out.lt
      have z0_0_4 : w4.cell? ⟨w.heap.size, 0, none⟩ = some (.slice none 0 0) := K0_4.out.cell 0
      have z0_1_4 : w4.cell? ⟨w.heap.size, 1, none⟩ = some (.int .i64 (0)) := K0_4.out.cell 1
      by_cases hz : D = 0
      · subst hz
        have zf0_0 := K0_4.out.frozen 0
        have zf0_1 := K0_4.out.frozen 1
        go_wp2
        exact bodyPost_ret (v := .tuple #[.agg #[.slice none 0 0, .int .i64 0], .int .i64 11]) (by simp [results, Try.results13, go_sem, z0_0_4, z0_1_4, l0_4]) rfl (FitPost.mk' (fitF_zero HN.out HD.out) rfl (by repeat' (first | exact Below.refl _ _ | exact HB4.out | refine below_drewN ?_ _ | refine Below.drew ?_ | refine Below.alloc ?_ (by first | omega | (simp; done) | (simp; omega) | (simp [World.setCell]; omega)) _ | refine Below.setCell ?_ (by first | omega | (simp; done) | (simp; omega)) _ | assumption)) Reads.none_ (fun _ _ h => nomatch h))
      · have HNZ := Lib.hid hz
        have hz0 : (D == 0) = false := by simpa using hz
        obtain ⟨F, hF⟩ : ∃ F, fitT l N = F := ⟨_, rfl⟩
        have HFT := Lib.hid hF
        clear hF
        go_wp2
        have hl04 := K0_4.out.lt
        generalize hwn : (w4.alloc (.cells #[.slice none 0 0, .int .i64 (D)] 48)) = w5
        have hbn : Below w4.heap.size w4 w5 := by rw [← hwn]; repeat' (first | exact Below.refl _ _ | refine below_drewN ?_ _ | refine Below.drew ?_ | refine Below.alloc ?_ (by first | omega | (simp; done) | (simp; omega) | (simp [World.setCell]; omega)) _ | refine Below.setCell ?_ (by first | omega | (simp; done) | (simp; omega)) _)
        have HB5 := Lib.hid (show Below w.heap.size w w5 from HB4.out.trans (hbn.mono HB4.out.size))
        have K0_5 := Lib.hid (step_blk hbn K0_4.out)
        have K1_5 := Lib.hid (show Blk w5 (w4.heap.size) 48 #[.slice none 0 0, .int .i64 (D)] by rw [← hwn]; repeat' (first | exact Blk.at_ _ (by first | rfl | (simp; done) | (simp; omega)) _ _ | refine Blk.drewN ?_ _ | refine Blk.drew ?_ | refine Blk.alloc ?_ _ | refine Blk.far ?_ (by first | omega | (simp; done) | (simp; omega)) _ | assumption))
        have R0_5 := Lib.hid ((R0_4.out.below hbn).more hbn.size)
        have R1_5 := Lib.hid ((R1_4.out.below hbn).more hbn.size)
        have HA5 := Lib.hid (step_below hbn HA4.out)
        clear HA4
        have HN5 := Lib.hid hbn
        have hz5 := hbn.size
        clear hwn hbn K0_4 l0_4 z0_0_4 z0_1_4 R0_4 R1_4
        have l0_5 : w.heap.size < w5.heap.size := K0_5.out.lt
        have z0_0_5 : w5.cell? ⟨w.heap.size, 0, none⟩ = some (.slice none 0 0) := K0_5.out.cell 0
        have z0_1_5 : w5.cell? ⟨w.heap.size, 1, none⟩ = some (.int .i64 (0)) := K0_5.out.cell 1
        have l1_5 : w4.heap.size < w5.heap.size := K1_5.out.lt
        have z1_0_5 : w5.cell? ⟨w4.heap.size, 0, none⟩ = some (.slice none 0 0) := K1_5.out.cell 0
        have z1_1_5 : w5.cell? ⟨w4.heap.size, 1, none⟩ = some (.int .i64 (D)) := K1_5.out.cell 1
        have hfT : F.length = N := by rw [← HFT.out]; simp [fitT]
        have hF0 : w3.heap.size ≤ w4.heap.size := by omega
        have hmb5 : w4.heap.size < w5.heap.size := by omega
        go_loopw [13, 96] (fun x i wr => ∃ (k : Nat) (vA : Option Addr) (vc : Nat), k ≤ N ∧ x = .int .i64 (gcdF D (F.take k)) ∧ i = .int .i64 k ∧ Tch (fun q => q = w4.heap.size) w5 wr ∧ Blk wr w4.heap.size 48 #[.slice vA k vc, .int .i64 D] ∧ wr.ownsRow w5.heap.size 3 1 (.slice vA k vc) k ((F.take k).map (.int .i64))) (fun _ i _ => N - (intOf i).toNat)
        case atStart => exact ⟨0, none, 0, by omega, rfl, rfl, Tch.refl _ _, K1_5.out, World.ownsRow_nil _ _ _ _⟩
        case round =>
          obtain ⟨k, vA, vc, hkN, rfl, rfl, ht, hm6, ho6⟩ := hrel
          obtain ⟨w6, hnm⟩ : ∃ z : World, z = wr := ⟨_, rfl⟩
          subst hnm
          have HT6 := Lib.hid ht
          have HM6 := Lib.hid hm6
          have HO6 := Lib.hid ho6
          clear ht hm6 ho6
          by_cases hlt : k < N
          rotate_left
          · obtain rfl : N = k := by omega
            rw [List.take_of_length_le (by omega : F.length ≤ N)] at HO6 ⊢
            obtain ⟨G, hG⟩ : ∃ G, gcdF D F = G := ⟨_, rfl⟩
            have hFn : F ≠ [] := by intro e; rw [e] at hfT; simp at hfT; omega
            have g1 : 1 ≤ G := hG ▸ gcdF_pos F D HNZ.out hFn
            have gD : G ∣ D := hG ▸ (gcdF_dvd F D).1
            have gF : ∀ z ∈ F, G ∣ z := hG ▸ (gcdF_dvd F D).2
            have gB : ∀ z ∈ F, InB 3000000000000000000 z := HFT.out ▸ fitT_in n1 n3 (by have := HL.out; omega) HSR.out
            rw [hG]
            have HG := Lib.hid hG
            have HGD := Lib.hid gF
            have HGB := Lib.hid gB
            have g0 : ¬ G = 0 := by omega
            have e1 : D.tdiv G = D / G := Int.tdiv_eq_ediv_of_dvd gD
            have bq := div_inb (G := G) HDI.out
            unfold InB at bq
            have e2 : IntKind.i64.wrap (D / G) = D / G := IntWalk.i64_in _ ⟨by omega, by omega⟩
            have c0 := HM6.out.cell 0
            have c1 := HM6.out.cell 1
            have cf := HM6.out.frozen 1
            clear hG hFn gD gF gB bq hlt
            go_wp2
            generalize hw7 : World.setCell _ _ _ = w7
            have hm7 : Blk w7 w4.heap.size 48 #[.slice vA N vc, .int .i64 (D / G)] := by
              rw [← hw7]
              have := HM6.out.set_ 1 (.int .i64 (D / G))
              simpa only [List.setIfInBounds_toArray, List.set_cons_zero, List.set_cons_succ] using this
            have hqo : ∀ q, (Value.slice vA N vc).ownBlock = some q → w5.heap.size ≤ q ∧ q < w6.heap.size := fun q hq => own_lt HO6.out hq
            have ho7 : w7.ownsRow w5.heap.size 3 1 (.slice vA N vc) N (F.map (.int .i64)) := by rw [← hw7]; exact own_set HO6.out (fun e => by have := hqo _ e; simp at this; omega) _
            have ht7 : Tch (fun q => q = w4.heap.size) w5 w7 := by rw [← hw7]; exact HT6.out.setCell (.inl rfl) _
            obtain ⟨gv, ext, rfl, hg5, hgc, hgb⟩ := own_block1 ho7 (by omega)
            have HM7 := Lib.hid hm7
            have HT7 := Lib.hid ht7
            have HG7 := Lib.hid hgb
            have hgl := hgb.lt
            have hs7 := ht7.size
            clear hw7 hm7 hqo ho7 ht7 hgb c0 c1 cf HM6 HO6 HT6 e1 e2
            go_loopw [128] (fun i wr => ∃ k : Nat, k ≤ N ∧ i = .int .i64 k ∧ Tch (fun q => q = gv) w7 wr ∧ Blk wr gv 3 ((divTo F G k).map (Value.int .i64) ++ ext).toArray) (fun i _ => N - (intOf i).toNat)
            case atStart => exact ⟨0, by omega, rfl, Tch.refl _ _, by rw [divTo_zero]; exact HG7.out⟩
            case round =>
              obtain ⟨k, hkN, rfl, ht8, hg8⟩ := hrel
              obtain ⟨w8, hnm⟩ : ∃ z : World, z = wr := ⟨_, rfl⟩
              subst hnm
              have hm8 := ht8.blk HM7.out (show ¬ w4.heap.size = gv by omega)
              have c0 := hm8.cell 0
              have c1 := hm8.cell 1
              have HT8 := Lib.hid ht8
              have HG8 := Lib.hid hg8
              have HM8 := Lib.hid hm8
              have hl8 := hg8.lt
              have hlm8 := hm8.lt
              have hs8 := ht8.size
              clear ht8 hg8 hm8
              by_cases hlt : k < N
              · obtain ⟨z, hz⟩ : ∃ z, F[k]? = some z := ⟨_, List.getElem?_eq_getElem (by omega)⟩
                have hcl : ((divTo F G k).map (Value.int .i64) ++ ext).toArray[k]? = some (.int .i64 z) := by
                  rw [List.getElem?_toArray, List.getElem?_append_left (by rw [List.length_map, divTo_len]; omega), List.getElem?_map, divTo_at hz]
                  rfl
                have cc := (HG8.out.cell k).trans hcl
                have cf := HG8.out.frozen k
                have hzG := HGD.out z (List.mem_of_getElem? hz)
                have e1 : z.tdiv G = z / G := Int.tdiv_eq_ediv_of_dvd hzG
                have bq := div_inb (G := G) (HGB.out z (List.mem_of_getElem? hz))
                unfold InB at bq
                have e2 : IntKind.i64.wrap (z / G) = z / G := IntWalk.i64_in _ ⟨by omega, by omega⟩
                have HZ := Lib.hid hz
                have hkk : (k : Int) < (N : Int) := by omega
                clear hcl hzG bq hz
                go_wp2
                go_roundw
                case rel =>
                  refine ⟨k + 1, by omega, by go_num, HT8.out.setCell (.inl rfl) _, ?_⟩
                  have := HG8.out.set_ k (.int .i64 (z / G))
                  rw [List.setIfInBounds_toArray, List.set_append_left _ _ (by rw [List.length_map, divTo_len]; omega), ← List.map_set, divTo_succ HZ.out] at this
                  exact this
                case measure => simp [intOf]; omega
              · obtain rfl : N = k := by omega
                have hg9 := HG8.out
                rw [divTo_all hfT] at hg9
                have hrd : Reads w8 w8.heap.size 1 (some ⟨gv, 0, none⟩) N ((F.map (· / G)).map (Value.int .i64)) := Reads.take_ext hg9 (by simp [hfT])
                obtain ⟨v9, W9, hrun, ho9, hb9⟩ := lit_run (P := Try.prog) 31 31 3 _ 1 8 Try.underlying31 info_int rfl (by omega) w8 [.int .i64 (D / G)] 1 rfl (by omega) w8.heap.size _ N vc _ hrd (Nat.le_refl _) (one_ints _) (by unfold maxLen; omega) (by omega)
                obtain ⟨A9, c9, rfl, hr9⟩ := own_reads ho9
                have hr9 : Reads W9 W9.heap.size 1 A9 (1 + N) ((D / G :: F.map (· / G)).map (Value.int .i64)) := hr9
                obtain ⟨S, hSm⟩ : ∃ S, smallL 1000000000000 (D / G :: F.map (· / G)) = S := ⟨_, rfl⟩
                have hfit := fitF_rest HN.out HD.out HFT.out HG.out HNZ.out
                rw [hSm] at hfit
                have hB9 : Below w4.heap.size w5 W9 := (HT7.out.below (B := w4.heap.size) (fun q hq => by omega) (by omega)).trans ((HT8.out.below (B := w4.heap.size) (fun q hq => by omega) (by omega)).trans (hb9.mono (by omega)))
                have hbw9 : Below w.heap.size w W9 := HB5.out.trans (hB9.mono (by omega))
                have hk9 := K0_5.out.below hB9 (by omega)
                have hm9 := HM8.out.below hb9 HM8.out.lt
                have hg9b := hg9.below hb9 hg9.lt
                have HRUN := Lib.hid hrun
                have HR9 := Lib.hid hr9
                have HSM := Lib.hid hSm
                have HFI := Lib.hid hfit
                have HG9 := Lib.hid hg9b
                clear hg9 hrd hrun ho9 hb9 hr9 hSm hfit hB9 hg9b
                go_wp2_with (first | (at_builtin; refine wpList_app _ W9 _ rfl _ _ _ rfl _ _ rfl rfl HRUN.out ?_))
                have HB9 := Lib.hid hbw9
                have K0_9 := Lib.hid (show Blk W9 (w.heap.size) 48 #[.slice none 0 0, .int .i64 (0)] from hk9)
                have K1_9 := Lib.hid (show Blk W9 (w4.heap.size) 48 #[.slice (some ⟨gv, 0, none⟩) N vc, .int .i64 (D / G)] from hm9)
                clear hbw9 hk9 hm9
                have l0_9 : w.heap.size < W9.heap.size := K0_9.out.lt
                have z0_0_9 : W9.cell? ⟨w.heap.size, 0, none⟩ = some (.slice none 0 0) := K0_9.out.cell 0
                have z0_1_9 : W9.cell? ⟨w.heap.size, 1, none⟩ = some (.int .i64 (0)) := K0_9.out.cell 1
                have l1_9 : w4.heap.size < W9.heap.size := K1_9.out.lt
                have z1_0_9 : W9.cell? ⟨w4.heap.size, 0, none⟩ = some (.slice (some ⟨gv, 0, none⟩) N vc) := K1_9.out.cell 0
                have z1_1_9 : W9.cell? ⟨w4.heap.size, 1, none⟩ = some (.int .i64 (D / G)) := K1_9.out.cell 1
                refine (smallpt_is 1000000000000 A9 (1 + N) c9 _ _ S HSM.out _ (by omega) (by omega) HR9.out (Nat.le_refl _) (by omega)).mono ?_
                rintro e w10 ⟨rfl, hb⟩
                have HGX := Lib.hid (HG9.out.below hb HG9.out.lt)
                have HB10 := Lib.hid (show Below w.heap.size w w10 from step_below hb (by repeat' (first | exact Below.refl _ _ | exact HB9.out | refine below_drewN ?_ _ | refine Below.drew ?_ | refine Below.alloc ?_ (by first | omega | (simp; done) | (simp; omega) | (simp [World.setCell]; omega)) _ | refine Below.setCell ?_ (by first | omega | (simp; done) | (simp; omega)) _ | assumption)))
                have K0_10 := Lib.hid (step_blk hb (show Blk _ (w.heap.size) 48 #[.slice none 0 0, .int .i64 (0)] by repeat' (first | exact K0_9.out | exact K1_9.out | exact Blk.at_ _ (by first | rfl | (simp; done) | (simp; omega)) _ _ | refine Blk.drewN ?_ _ | refine Blk.drew ?_ | refine Blk.alloc ?_ _ | refine Blk.far ?_ (by first | omega | (simp; done) | (simp; omega)) _ | assumption)))
                have K1_10 := Lib.hid (step_blk hb (show Blk _ (w4.heap.size) 48 #[.slice (some ⟨gv, 0, none⟩) N vc, .int .i64 (D / G)] by repeat' (first | exact K0_9.out | exact K1_9.out | exact Blk.at_ _ (by first | rfl | (simp; done) | (simp; omega)) _ _ | refine Blk.drewN ?_ _ | refine Blk.drew ?_ | refine Blk.alloc ?_ _ | refine Blk.far ?_ (by first | omega | (simp; done) | (simp; omega)) _ | assumption)))
                have hz10 := hb.size
                try simp only [World.size_alloc, World.drewN, World.drew] at hz10
                clear hb K0_9 K1_9 z0_0_9 z0_1_9 l0_9 z1_0_9 z1_1_9 l1_9
                have l0_10 : w.heap.size < w10.heap.size := K0_10.out.lt
                have z0_0_10 : w10.cell? ⟨w.heap.size, 0, none⟩ = some (.slice none 0 0) := K0_10.out.cell 0
                have z0_1_10 : w10.cell? ⟨w.heap.size, 1, none⟩ = some (.int .i64 (0)) := K0_10.out.cell 1
                have l1_10 : w4.heap.size < w10.heap.size := K1_10.out.lt
                have z1_0_10 : w10.cell? ⟨w4.heap.size, 0, none⟩ = some (.slice (some ⟨gv, 0, none⟩) N vc) := K1_10.out.cell 0
                have z1_1_10 : w10.cell? ⟨w4.heap.size, 1, none⟩ = some (.int .i64 (D / G)) := K1_10.out.cell 1
                cases S
                · have hfit := HFI.out
                  rw [if_pos rfl] at hfit
                  have HFI2 := Lib.hid hfit
                  clear hfit HFI
                  have zf0_0 := K0_10.out.frozen 0
                  have zf0_1 := K0_10.out.frozen 1
                  go_wp2
                  exact bodyPost_ret (v := .tuple #[.agg #[.slice none 0 0, .int .i64 0], .int .i64 8]) (by simp [results, Try.results13, go_sem, z0_0_10, z0_1_10, l0_10]) rfl (FitPost.mk' HFI2.out rfl (by repeat' (first | exact Below.refl _ _ | exact HB10.out | refine below_drewN ?_ _ | refine Below.drew ?_ | refine Below.alloc ?_ (by first | omega | (simp; done) | (simp; omega) | (simp [World.setCell]; omega)) _ | refine Below.setCell ?_ (by first | omega | (simp; done) | (simp; omega)) _ | assumption)) Reads.none_ (fun _ _ h => nomatch h))
                · have hfit := HFI.out
                  rw [if_neg (by simp)] at hfit
                  have HFI2 := Lib.hid hfit
                  clear hfit HFI
                  have zf0_0 := K0_10.out.frozen 0
                  have zf0_1 := K0_10.out.frozen 1
                  go_wp2
                  have hgx := (HGX.out.far (p := ⟨w.heap.size, 0, none⟩) (by simp; omega) (.slice (some ⟨gv, 0, none⟩) N vc)).far (p := ⟨w.heap.size, 1, none⟩) (by simp; omega) (.int .i64 (D / G))
                  exact bodyPost_ret (v := .tuple #[.agg #[.slice (some ⟨gv, 0, none⟩) N vc, .int .i64 (D / G)], .int .i64 0]) (by simp [results, Try.results13, go_sem, z0_0_10, z0_1_10, l0_10]) rfl
                    (FitPost.mk' (A := some ⟨gv, 0, none⟩) (c := vc) HFI2.out (by rw [List.length_map, hfT]) (by repeat' (first | exact Below.refl _ _ | exact HB10.out | refine below_drewN ?_ _ | refine Below.drew ?_ | refine Below.alloc ?_ (by first | omega | (simp; done) | (simp; omega) | (simp [World.setCell]; omega)) _ | refine Below.setCell ?_ (by first | omega | (simp; done) | (simp; omega)) _ | assumption)) (by rw [List.length_map, hfT]; exact Reads.take_ext hgx (by simp [hfT])) (fun b o h => by cases h; omega))
          have hbw6 : Below w3.heap.size w3 w6 := HA5.out.trans (HT6.out.below (B := w3.heap.size) (fun q hq => by omega) (by have := HA5.out.size; omega))
          have hs6 := HT6.out.size
          have hrt := (HRT.out.below hbw6).more hbw6.size
          have HBW6 := Lib.hid hbw6
          have HRT6 := Lib.hid hrt
          clear hbw6 hrt
          go_wp2_with fail
          refine (clonell_any _ N N _ _ _ HRT6.out.1 (Nat.le_refl _) (by omega) (row_one t)).mono ?_
          rintro e w7 ⟨A', c', rfl, hb7, -, hown⟩
          obtain ⟨gb, ext, rfl, hg, hgc, hgb⟩ := own_block1 hown (by omega)
          have htl := HRT6.out.len
          have hcl : (t.map TRow.val ++ ext).toArray[k]? = some (t[k].val) := by
            rw [List.getElem?_toArray, List.getElem?_append_left (by rw [List.length_map]; omega), List.getElem?_map, List.getElem?_eq_getElem (show k < t.length by omega)]
            rfl
          have cc := (hgb.cell k).trans hcl
          have cf := hgb.frozen k
          have HG := Lib.hid hgb
          have HB7 := Lib.hid hb7
          have hlg := hgb.lt
          have hkk : (k : Int) < (N : Int) := by omega
          have hs7 := hb7.size
          clear hgb hcl hown hb7
          go_wp2
          generalize hw8 : (World.setCell _ _ _) = w8
          obtain ⟨tt, htt⟩ : ∃ tt, t.set k ⟨some ⟨rb, 0, none⟩, N, N, rgtL l N⟩ = tt := ⟨_, rfl⟩
          have hg8 : Blk w8 gb 31 (tt.map TRow.val ++ ext).toArray := by
            rw [← hw8, ← htt]
            have := HG.out.set_ k (.slice (some ⟨rb, 0, none⟩) N N)
            rw [List.setIfInBounds_toArray, List.set_append_left _ _ (by rw [List.length_map]; omega)] at this
            rw [List.map_set]
            exact this
          have hqo : ∀ q, (Value.slice vA k vc).ownBlock = some q → w5.heap.size ≤ q ∧ q < w6.heap.size := fun q hq => own_lt HO6.out hq
          have hb8 : Below w3.heap.size w3 w8 := by rw [← hw8]; exact (HBW6.out.trans (HB7.out.mono (by omega))).setCell (by show _ ≤ gb; omega) _
          have hm8 : Blk w8 w4.heap.size 48 #[.slice vA k vc, .int .i64 D] := by rw [← hw8]; exact Blk.far (Blk.below HM6.out HB7.out (by omega)) (by simp; omega) _
          have ho8 : w8.ownsRow w5.heap.size 3 1 (.slice vA k vc) k ((F.take k).map (.int .i64)) := by rw [← hw8]; exact own_set (own_below HO6.out HB7.out (Nat.le_refl _)) (fun e => by have := hqo _ e; simp at this; omega) _
          have ht8 : Tch (fun q => q = w4.heap.size) w5 w8 := by rw [← hw8]; exact (HT6.out.call HB7.out).setCell (.inr (by show _ ≤ gb; omega)) _
          have hs8 : w7.heap.size ≤ w8.heap.size := by rw [← hw8]; simp [World.setCell]
          have hrr : ∀ r ∈ tt, (r.n ≤ r.c ∧ r.c ≤ 9223372036854775807) ∧ Reads w3 w3.heap.size 1 r.A r.n (r.xs.map (.int .i64)) := fun r hr => by
            rw [← htt] at hr
            rcases List.mem_or_eq_of_mem_set hr with hr | rfl
            · exact HRT.out.2 r hr
            · exact ⟨⟨Nat.le_refl _, by show N ≤ _; omega⟩, HRG.out⟩
          have htl2 : tt.length = N := by rw [← htt, List.length_set, htl]
          have hde0 := (fit_det_at (p := k) n1 n3 (by have := HL.out; omega) HSR.out)
          obtain ⟨E, hE⟩ : ∃ E, detM ((fitM l N).set k (rgtL l N)) = E := ⟨_, rfl⟩
          rw [hE] at hde0
          have hde : Sq (tt.map TRow.xs) E := by rw [← htt, List.map_set, HTM.out]; exact hde0.1
          have hFk : F[k]? = some E := by rw [← HFT.out, fitT, List.getElem?_map, List.getElem?_range hlt, ← hE]; rfl
          have HG8 := Lib.hid hg8
          have HB8 := Lib.hid hb8
          have HM8 := Lib.hid hm8
          have HO8 := Lib.hid ho8
          have HT8 := Lib.hid ht8
          have HRR := Lib.hid hrr
          have HDE := Lib.hid hde
          have HEI := Lib.hid hde0.2
          have HFK := Lib.hid hFk
          clear hw8 hg8 hb8 hm8 ho8 ht8 hrr hde hde0 hE hFk cc cf htt HG HM6 HO6 HT6 HBW6 HRT6
          have hneM : (Value.slice vA k vc).ownBlock ≠ some w4.heap.size := fun e => by have := hqo _ e; omega
          have hsz8 : w5.heap.size ≤ w8.heap.size := by omega
          have hownS := HO8.out
          have hblkS := HM8.out
          have hneS := hneM
          refine Fx.regionM (fun W g f w' => As (w5.heap.size) 3 1 (.slice vA k vc) (k) ((F.take k).map (.int .i64)) [.int .i64 E] 4 5 7 (w4.heap.size) 48 #[.slice vA k vc, .int .i64 (D)] 0 W g f w') (fun i (x : Pick) => if i = 4 then .slice x.1 1 1 else .slice x.1 (k + 1) x.2) (by kernel_rfl) ?_ ?_
          · intro f hf0
            exact As.start hownS hblkS hneS (hf0 7) 1
          first
          | (refine Fx.WM.skip 0 (by rfl) (by kernel_rfl) (by kernel_rfl) (by kernel_rfl) (by rfl) (fun g f w h => As.same h (by decide)) ?_; simp only [Act.put, List.setIfInBounds_toArray, List.set_cons_zero, List.set_cons_succ])
          | (refine Fx.WM.val_ 0 ?_ (by rfl) (by kernel_rfl) (by kernel_rfl) (by kernel_rfl) (by rfl) ?_ (fun g f w h => As.same h (by decide)) ?_
             rotate_left
             · intro g f w' hx hD hk
               obtain has := id hD
               clear hx hk hD has
               go_simp
               try rfl
             simp only [Act.put, List.setIfInBounds_toArray, List.set_cons_zero, List.set_cons_succ])
          first
          | (refine Fx.WM.skip 2 (by rfl) (by kernel_rfl) (by kernel_rfl) (by kernel_rfl) (by rfl) (fun g f w h => As.same h (by decide)) ?_; simp only [Act.put, List.setIfInBounds_toArray, List.set_cons_zero, List.set_cons_succ])
          | (refine Fx.WM.val_ 2 ?_ (by rfl) (by kernel_rfl) (by kernel_rfl) (by kernel_rfl) (by rfl) ?_ (fun g f w h => As.same h (by decide)) ?_
             rotate_left
             · intro g f w' hx hD hk
               obtain has := id hD
               clear hx hk hD has
               go_simp
               try rfl
             simp only [Act.put, List.setIfInBounds_toArray, List.set_cons_zero, List.set_cons_succ])
          first
          | (refine Fx.WM.skip 1 (by rfl) (by kernel_rfl) (by kernel_rfl) (by kernel_rfl) (by rfl) (fun g f w h => As.same h (by decide)) ?_; simp only [Act.put, List.setIfInBounds_toArray, List.set_cons_zero, List.set_cons_succ])
          | (refine Fx.WM.val_ 1 ?_ (by rfl) (by kernel_rfl) (by kernel_rfl) (by kernel_rfl) (by rfl) ?_ (fun g f w h => As.same h (by decide)) ?_
             rotate_left
             · intro g f w' hx hD hk
               obtain has := id hD
               have hst := (hk.2.1 7 (by kernel_rfl))
               have qf := (has.cell hst 0).1
               clear hx hk hD has hst
               go_simp
               try rfl
             simp only [Act.put, List.setIfInBounds_toArray, List.set_cons_zero, List.set_cons_succ])
          refine Fx.WM.call 3 (.int .i64 (E)) ?_ ?_ (by rfl) (by kernel_rfl) (by kernel_rfl) (by kernel_rfl) (by rfl) ?_ ?_ ?_
          rotate_left 2
          · intro w'
            go_simp
            refine ⟨?_, ?_⟩ <;> rfl
          · intro g f w' hx hD hk
            have has := hD
            exact (pdet_is _ N c' tt E HDE.out _ (tab_of (has.blk HG8.out (fun e => by have := hqo _ e; omega) (by omega)) htl2 HRR.out (HB8.out.trans (As.below has (N := w3.heap.size) (fun q hq => by have := hqo _ hq; omega) (by omega) (by omega))) (by have := has.size; omega))).mono fun e w'' ⟨he, hw⟩ => ⟨he, As.call hD hw (by decide)⟩
          simp only [Act.put, List.setIfInBounds_toArray, List.set_cons_zero, List.set_cons_succ]
          refine Fx.WM.choose 4 (by rfl) (by kernel_rfl) (by rfl) ?_ ?_
          · skip
            refine Fx.Chooses.make (by rfl) ?_
            intro f w' hD hk
            refine ⟨(some ⟨w'.heap.size, 0, none⟩, 0), w'.alloc (.cells #[.int .i64 E] 3), ?_, ?_⟩
            · clear hk hD
              go_simp
              try rfl
            · exact As.mk_lit hD (by decide) (by decide)
          intro x
          simp only [Act.put, List.setIfInBounds_toArray, List.set_cons_zero, List.set_cons_succ]
          refine Fx.WM.choose 5 (by rfl) (by kernel_rfl) (by rfl) ?_ ?_
          · skip
            refine Fx.Chooses.make (by rfl) ?_
            intro f w' hD hk
            obtain ⟨y', w2', hrun, hD2⟩ := As.app (P := Try.prog) (c := 1) hD Try.underlying31 info_int rfl (by omega) (by simp [Value.oneCell']) rfl (hsz8) (by unfold maxLen; omega) (by omega) (x := x) (by rfl) (by rfl) (by decide) (by decide) (hk.2.1 7 (by kernel_rfl))
            exact ⟨y', w2', exec_append _ _ _ rfl hrun, hD2⟩
          intro y
          simp only [Act.put, List.setIfInBounds_toArray, List.set_cons_zero, List.set_cons_succ]
          first
          | (refine Fx.WM.skip 6 (by rfl) (by kernel_rfl) (by kernel_rfl) (by kernel_rfl) (by rfl) (fun g f w h => As.same h (by decide)) ?_; simp only [Act.put, List.setIfInBounds_toArray, List.set_cons_zero, List.set_cons_succ])
          | (refine Fx.WM.val_ 6 ?_ (by rfl) (by kernel_rfl) (by kernel_rfl) (by kernel_rfl) (by rfl) ?_ (fun g f w h => As.same h (by decide)) ?_
             rotate_left
             · intro g f w' hx hD hk
               obtain has := id hD
               clear hx hk hD has
               go_simp
               try rfl
             simp only [Act.put, List.setIfInBounds_toArray, List.set_cons_zero, List.set_cons_succ])
          refine Fx.WM.eff 7 undef (by rfl) (by kernel_rfl) (by kernel_rfl) (by kernel_rfl) (by rfl) ?_ ?_
          · intro g f w' hx hD hk
            have hst : f 7 = false := hk.1
            obtain ⟨qf, pf⟩ := As.cell hD hst 0
            refine Fx.gives_skip (w' := (w'.setCell ⟨w4.heap.size, 0, none⟩ (.slice y.1 (k + 1) y.2))) ?_ ?_
            · clear hx hk hD hst
              go_simp
              try rfl
            · exact As.store hD (hx 5 _ (by rfl)) hk.1
          simp only [Act.put, List.setIfInBounds_toArray, List.set_cons_zero, List.set_cons_succ]
          refine Fx.WM.nil (by kernel_rfl) ?_
          intro w9 has
          obtain ⟨hoA, hfb⟩ := As.ends has (y := y) (by rfl) (by rfl)
          have ht9 : Tch (fun q => q = w4.heap.size) w5 w9 := by
            refine HT8.out.then_ (Y := fun q => q = w4.heap.size ∨ (Value.slice vA k vc).ownBlock = some q) ⟨has.os, has.tape, has.output, has.size, fun i hi hx => has.keep i hi (fun e => hx (.inr e)) (fun e => hx (.inl e))⟩ fun i hi hx => ?_
            rcases hx with h | h
            · exact h
            · have := (hqo i h).1; omega
          have hrd := own_reads2 hoA
          have hs9 := has.size
          obtain ⟨yA, yc⟩ := y
          obtain ⟨yb, yo, rfl, hyb, hyc⟩ := hrd.2 (by omega)
          have hyk := hyc k (.int .i64 E) (by rw [List.getElem?_append_right (by rw [List.length_map, List.length_take]; omega), List.length_map, List.length_take, Nat.min_eq_left (by omega), Nat.sub_self]; rfl)
          have hm0 := hfb.cell 0
          simp only [List.setIfInBounds_toArray, List.set_cons_zero] at hm0
          have HO9 := Lib.hid hoA
          have HM9 := Lib.hid hfb
          have HT9 := Lib.hid ht9
          clear has hoA hfb ht9 hrd hyc hqo
          have hgs : gcdF D (F.take (k + 1)) = (Int.gcd (gcdF D (F.take k)) E : Int) := by
            rw [List.take_add_one, HFK.out]; exact gcdF_snoc E _ D
          obtain ⟨b1, b2, hgw⟩ := gcd_bound (gcdF_dvd (F.take k) D).1 HNZ.out HDI.out HEI.out
          have hkk2 : (k : Int) < ((k + 1 : Nat) : Int) := by omega
          have HGS := Lib.hid (hgw.trans hgs.symm)
          clear hgs hgw
          go_wp2_with fail
          refine (gcdpt_any _ _ _ b1.1 b1.2 b2.1 b2.2).mono ?_
          rintro e w10 ⟨rfl, q10, rfl⟩
          rw [HGS.out]
          go_wp2
          go_roundw
          case rel => exact ⟨k + 1, _, yc, by omega, rfl, by go_num, HT9.out.drewN _, HM9.out.drewN _, by rw [List.take_add_one, HFK.out, List.map_append]; exact HO9.out⟩
          case measure => simp [intOf]; omega
    have c0 : ∀ o, (w3.alloc o).cell? ⟨cb, k, none⟩ = some (.slice none 0 0) := fun o => by
      have := (RB.cell (Blk.alloc HC.out o) hlt : (w3.alloc o).cell? ⟨cb, k, none⟩ = some (colV d N k k))
      rw [this]; unfold colV; rw [if_neg (by omega)]
    have f0 : ∀ o, (w3.alloc o).frozen? ⟨cb, k, none⟩ = false := fun o => Blk.frozen (Blk.alloc HC.out o) k
    go_wp2
    generalize hw4 : (World.setCell _ _ _) = w4
    have hcol4 : RB w4 cb 31 N (colV (fun j => if j = k then w3.heap.size else d j) N (k + 1)) := by
      rw [← hw4]
      refine (RB.set_ (Blk.alloc HC.out _ : RB _ cb 31 N (colV d N k)) k _).congr fun j hj => ?_
      unfold colV
      by_cases hjk : j = k
      · subst hjk; rw [if_pos rfl, if_pos (by omega)]; simp
      · rw [if_neg hjk]
        by_cases hjl : j < k
        · rw [if_pos hjl, if_pos (by omega)]; simp [hjk]
        · rw [if_neg hjl, if_neg (by omega)]
    have hrow4 : RB w4 rb 3 N (rgtV l k 0) := by rw [← hw4]; exact Blk.far (Blk.alloc HR.out _) (fun e => hcr e.symm) _
    have hnew4 : RB w4 w3.heap.size 3 N (fun a => .int .i64 (nrmTo l 0 k a)) := by rw [← hw4]; exact Blk.far (Blk.at_ _ rfl _ _) (by simp; omega) _
    have hfin4 : ∀ j, j < k → w2.heap.size ≤ d j ∧ d j < w3.heap.size ∧ RB w4 (d j) 3 N (fun a => .int .i64 (nrmTo l l.length j a)) := fun j hj => by
      obtain ⟨h1, h2⟩ := HF.out j hj
      refine ⟨h1, h2.lt, ?_⟩
      rw [← hw4]
      exact Blk.far (Blk.alloc h2 _) (by simp; omega) _
    have ht4 : Tch (fun q => q = cb ∨ q = rb) w2 w4 := by rw [← hw4]; exact (HT.out.alloc _).setCell (.inl (.inl rfl)) _
    have hs4 : w4.heap.size = w3.heap.size + 1 := by rw [← hw4]; simp [World.setCell]
    have HC4 := Lib.hid hcol4
    have HR4 := Lib.hid hrow4
    have HK4 := Lib.hid hnew4
    have HF4 := Lib.hid hfin4
    have HT4 := Lib.hid ht4
    have hs4' : w3.heap.size + 1 ≤ w4.heap.size := by omega
    have hs4'' : w4.heap.size ≤ w3.heap.size + 1 := by omega
    clear hw4 hcol4 hrow4 hnew4 hfin4 ht4 hs4 c0 f0 HC HR HF HT
    have HBW4 : Hid (Below w.heap.size w w4) := HB2.out.trans ((HT4.out.below (B := w.heap.size) (fun q hq => by rcases hq with rfl | rfl <;> omega) (by omega)))
    go_loopw [41] (fun i wr => ∃ q : Nat, q ≤ n ∧ i = .int .i64 q ∧ Tch (fun g => g = w3.heap.size ∨ g = rb) w4 wr ∧ RB wr w3.heap.size 3 N (fun a => .int .i64 (nrmTo l q k a)) ∧ RB wr rb 3 N (rgtV l k q)) (fun i _ => n - (intOf i).toNat)
    case atStart => exact ⟨0, by omega, rfl, Tch.refl _ _, HK4.out, HR4.out⟩
    case round =>
      obtain ⟨q, hqn, rfl, ht, hk5, hr5⟩ := hrel
      obtain ⟨w5, hnm⟩ : ∃ z : World, z = wr := ⟨_, rfl⟩
      subst hnm
      have HT5 := Lib.hid ht
      have HK5 := Lib.hid hk5
      have HR5 := Lib.hid hr5
      have hs5 := ht.size
      have HBW5 : Hid (Below w.heap.size w w5) := HBW4.out.trans (ht.below (fun q hq => by rcases hq with rfl | rfl <;> omega) (by omega))
      clear ht hk5 hr5
      by_cases hq : q < n
      rotate_left
      · have hqe : q = l.length := by rw [HL.out]; omega
        go_wp2
        go_roundw
        case rel =>
          refine ⟨k + 1, fun j => if j = k then w3.heap.size else d j, by omega, by go_num, HT4.out.then_ HT5.out (fun i hi hx => by rcases hx with rfl | rfl; omega; exact .inr rfl), HT5.out.rb HC4.out (by rintro (rfl | rfl) <;> omega), HR5.out.congr (fun j _ => ?_), fun j hj => ?_⟩
          · unfold rgtV
            by_cases h1 : j < k
            · rw [if_pos h1, if_pos (by omega)]
            · rw [if_neg h1]
              by_cases h2 : j = k
              · rw [if_pos h2, if_pos (by omega), hqe, h2]
              · rw [if_neg h2, if_neg (by omega)]
                split <;> rfl
          · by_cases hjk : j = k
            · subst hjk
              simp only [if_true]
              exact ⟨by omega, by have := HK5.out; rwa [hqe] at this⟩
            · simp only [if_neg hjk]
              obtain ⟨h1, h2, h3⟩ := HF4.out j (by omega)
              exact ⟨h1, HT5.out.rb h3 (by rintro (h | h) <;> omega)⟩
        case measure => simp [intOf]; omega
      obtain ⟨xb, xo, s, rfl, hxb, hs, d0, d1, -, hsl, hsr⟩ := HX.out.at_ hq
      have hok := HSR.out s (List.mem_of_getElem? hs)
      have hxN := (star_right hok).1
      rw [hsl] at hxN
      obtain ⟨pb, po, hsA, hpb, hpc⟩ := hsr.2 (by omega)
      have hcell : ∀ j, j < N → w.cell? ⟨pb, po + j, none⟩ = some (.int .i64 (shp s j)) := fun j hj => by
        refine hpc j _ ?_
        have : s.xs[j]? = some (shp s j) := by unfold shp; rw [List.getD_eq_getElem?_getD, List.getElem?_eq_getElem (by omega)]; rfl
        rw [List.getElem?_map, this]; rfl
      have d0 := (HBW5.out.cell (p := ⟨xb, xo + q * 2, none⟩) hxb).trans d0
      have d1 := (HBW5.out.cell (p := ⟨xb, xo + q * 2 + 1, none⟩) hxb).trans d1
      have HCE := Lib.hid hcell
      have HOK := Lib.hid hok
      have HSQ := Lib.hid hs
      rw [hsA, hxN] at d0
      have hse := (star_right hok).2.2.2.2
      clear hs hsl hsr hpc hcell hok
      go_wp2
      generalize hw6 : (World.alloc _ _) = w6
      have hb56 : Below w5.heap.size w5 w6 := by rw [← hw6]; exact (Below.refl _ _).alloc (Nat.le_refl _) _
      have hst6 : Blk w6 w5.heap.size 52 #[.slice (some ⟨pb, po, none⟩) N s.c, .int .i64 s.er] := by rw [← hw6]; exact Blk.new _ _ _
      have HB56 := Lib.hid hb56
      have HST := Lib.hid hst6
      have hs6 := hb56.size
      have hl56 := hst6.lt
      clear hw6 hb56 hst6 d0 d1
      go_loopw [46] (fun i wr => ∃ a : Nat, a ≤ N ∧ i = .int .i64 a ∧ Tch (fun g => g = w3.heap.size) w6 wr ∧ RB wr w3.heap.size 3 N (rowQ l k q a)) (fun i _ => N - (intOf i).toNat)
      case atStart => exact ⟨0, by omega, rfl, Tch.refl _ _, (HK5.out.lay HB56.out).congr (fun j _ => by unfold rowQ; rw [if_neg (by omega)])⟩
      case round =>
        obtain ⟨a, haN, rfl, ht, hk7⟩ := hrel
        obtain ⟨w7, hnm⟩ : ∃ z : World, z = wr := ⟨_, rfl⟩
        subst hnm
        have HT7 := Lib.hid ht
        have HK7 := Lib.hid hk7
        have hs7 := ht.size
        have hc7 : w7.cell? ⟨cb, k, none⟩ = some (.slice (some ⟨w3.heap.size, 0, none⟩) N N) := by
          have h5 : RB w5 cb 31 N _ := HT5.out.rb HC4.out (by rintro (rfl | rfl) <;> omega)
          have h6 : RB w6 cb 31 N _ := h5.lay HB56.out
          have h7 : RB w7 cb 31 N _ := HT7.out.rb h6 (by omega)
          rw [h7.cell hlt]
          unfold colV
          rw [if_pos (by omega)]; simp
        have hst7 : Blk w7 w5.heap.size 52 #[.slice (some ⟨pb, po, none⟩) N s.c, .int .i64 s.er] := HT7.out.blk HST.out (by omega)
        have hcell7 : ∀ j, j < N → w7.cell? ⟨pb, po + j, none⟩ = some (.int .i64 (shp s j)) := fun j hj => by
          have h5 := (HBW5.out.cell (p := ⟨pb, po + j, none⟩) hpb).trans (HCE.out j hj)
          have h6 := (HB56.out.cell (p := ⟨pb, po + j, none⟩) (by show pb < _; omega)).trans h5
          exact (HT7.out.cell (p := ⟨pb, po + j, none⟩) (by show pb < _; omega) (by show ¬ pb = _; omega)).trans h6
        have hz0 := hst7.cell 0
        have hz1' := hst7.cell 1
        by_cases hlt2 : a < N
        · have x1 := shp_in HOK.out k
          have x2 := shp_in HOK.out a
          have y1 := nrm_in HSR.out q k a
          have p1 := mulb x1 x2 (by decide) (by decide)
          have hq20 : (q : Int) ≤ 20 := by omega
          have v1 := IntWalk.i64_in (shp s k * shp s a) ⟨by omega, by omega⟩
          have v2 := IntWalk.i64_in (nrmTo l q k a + shp s k * shp s a) ⟨by omega, by omega⟩
          have hold : w7.cell? ⟨w3.heap.size, a, none⟩ = some (.int .i64 (nrmTo l q k a)) := by rw [HK7.out.cell hlt2]; unfold rowQ; rw [if_neg (by omega)]
          have hofr := HK7.out.frozen a
          have hka : (a : Int) < (N : Int) := by omega
          have hkk : (k : Int) < (N : Int) := by omega
          have hck := hcell7 k hlt
          have hca := hcell7 a hlt2
          clear hcell7 x1 x2 y1 p1 hk7 ht
          go_wp2
          obtain ⟨W0, hW0⟩ : ∃ W0, W0 = w7.drewN 1 := ⟨_, rfl⟩
          have m0 : W0.cell? ⟨cb, k, none⟩ = some (.slice (some ⟨w3.heap.size, 0, none⟩) N N) := by rw [hW0]; exact hc7
          have m1 : W0.cell? ⟨w5.heap.size, 0, none⟩ = some (.slice (some ⟨pb, po, none⟩) N s.c) := by rw [hW0]; exact hz0
          have m2 : W0.cell? ⟨pb, po + k, none⟩ = some (.int .i64 (shp s k)) := by rw [hW0]; exact hck
          have m3 : W0.cell? ⟨pb, po + a, none⟩ = some (.int .i64 (shp s a)) := by rw [hW0]; exact hca
          have mo : W0.cell? ⟨w3.heap.size, a, none⟩ = some (.int .i64 (nrmTo l q k a)) := by rw [hW0]; exact hold
          have mf : W0.frozen? ⟨w3.heap.size, a, none⟩ = false := by rw [hW0]; exact hofr
          refine Fx.region (fun f w' => (f 20 = false → w' = W0) ∧ (f 20 = true → w' = W0.setCell ⟨w3.heap.size, a, none⟩ (.int .i64 (nrmTo l q k a + shp s k * shp s a)))) (by kernel_rfl) (by kernel_rfl) ?_ ?_
          · intro f hf0
            exact ⟨fun _ => hW0.symm, fun h => by rw [hf0 20] at h; cases h⟩
          have HW0 := Lib.hid hW0
          clear hW0
          repeat (first
            | (refine Fx.skip_ (by rfl) (fun f w h => h) ?_; simp only [Act.put, List.setIfInBounds_toArray, List.set_cons_zero, List.set_cons_succ])
            | (refine Fx.val_ ?_ (by rfl) ?_ (fun f w h => h) ?_
               rotate_left
               · intro f w' hD hk
                 obtain ⟨jw, jr⟩ := id hD
                 have jw := jw (hk.2.1 20 (by kernel_rfl))
                 have q0 : w'.cell? ⟨cb, k, none⟩ = some (.slice (some ⟨w3.heap.size, 0, none⟩) N N) := by rw [jw]; exact m0
                 have q1 : w'.cell? ⟨w5.heap.size, 0, none⟩ = some (.slice (some ⟨pb, po, none⟩) N s.c) := by rw [jw]; exact m1
                 have q2 : w'.cell? ⟨pb, po + k, none⟩ = some (.int .i64 (shp s k)) := by rw [jw]; exact m2
                 have q3 : w'.cell? ⟨pb, po + a, none⟩ = some (.int .i64 (shp s a)) := by rw [jw]; exact m3
                 have qo : w'.cell? ⟨w3.heap.size, a, none⟩ = some (.int .i64 (nrmTo l q k a)) := by rw [jw]; exact mo
                 clear hk hD jw jr
                 go_simp
                 try rfl
               simp only [Act.put, List.setIfInBounds_toArray, List.set_cons_zero, List.set_cons_succ]))
          refine Fx.store_ (fun w' => w'.setCell ⟨w3.heap.size, a, none⟩ (.int .i64 (nrmTo l q k a + shp s k * shp s a))) (by rfl) ?_ ?_ ?_
          · intro f w' hD hk
            obtain ⟨jw, jr⟩ := id hD
            have jw := jw hk.1
            have q0 : w'.cell? ⟨w3.heap.size, a, none⟩ = some (.int .i64 (nrmTo l q k a)) := by rw [jw]; exact mo
            have q1 : w'.frozen? ⟨w3.heap.size, a, none⟩ = false := by rw [jw]; exact mf
            clear hk hD jw jr
            go_simp
          · intro f w' hD hk
            obtain ⟨jw, jr⟩ := id hD
            have jw := jw hk.1
            exact ⟨fun h => by simp [Fx.add] at h, fun _ => by rw [jw]⟩
          simp only [Act.put, List.setIfInBounds_toArray, List.set_cons_zero, List.set_cons_succ]
          refine Fx.nil_ ?_
          intro f w8 hall hD
          have hwn := hD.2 (hall 20 (by simp))
          rw [HW0.out] at hwn
          clear hall hD HW0 mo mf m0 m1 m2 m3
          have ht8 : Tch (fun g => g = w3.heap.size) w6 w8 := by rw [hwn]; exact (HT7.out.drewN 1).setCell (.inl rfl) _
          have hk8 : RB w8 w3.heap.size 3 N (rowQ l k q (a + 1)) := by
            rw [hwn]
            refine (RB.set_ (Blk.drewN HK7.out 1 : RB _ w3.heap.size 3 N (rowQ l k q a)) a _).congr fun j hj => ?_
            unfold rowQ
            by_cases hja : j = a
            · subst hja; rw [if_pos rfl, if_pos (by omega), nrmTo_succ HSQ.out]
            · rw [if_neg hja]
              by_cases h : j < a
              · rw [if_pos h, if_pos (by omega)]
              · rw [if_neg h, if_neg (by omega)]
          have HT8 := Lib.hid ht8
          have HK8 := Lib.hid hk8
          clear ht8 hk8 hwn v1 v2
          go_wp2
          go_roundw
          case rel => exact ⟨a + 1, by omega, by go_num, HT8.out, HK8.out⟩
          case measure => simp [intOf]; omega
        · have haN' : a = N := by omega
          have hk9 : RB w7 w3.heap.size 3 N (fun j => .int .i64 (nrmTo l (q + 1) k j)) := HK7.out.congr fun j hj => by unfold rowQ; rw [if_pos (by omega)]
          have hr7 : RB w7 rb 3 N (rgtV l k q) := HT7.out.rb (HR5.out.lay HB56.out) (by omega)
          have HK9 := Lib.hid hk9
          have HR7 := Lib.hid hr7
          have x1 := shp_in HOK.out k
          have y1 := rgt_in HSR.out q k
          obtain ⟨e1, e2⟩ := hse
          have p1 := mulb x1 (show -1000 ≤ s.er ∧ s.er ≤ 1000 from ⟨e1, e2⟩) (by decide) (by decide)
          have hq20 : (q : Int) ≤ 20 := by omega
          have v1 := IntWalk.i64_in (shp s k * s.er) ⟨by omega, by omega⟩
          have v2 := IntWalk.i64_in (rgtTo l q k + shp s k * s.er) ⟨by omega, by omega⟩
          have hold : w7.cell? ⟨rb, k, none⟩ = some (.int .i64 (rgtTo l q k)) := by rw [hr7.cell hlt]; unfold rgtV; rw [if_neg (by omega), if_pos rfl]
          have hofr := hr7.frozen k
          have hkk : (k : Int) < (N : Int) := by omega
          have hck := hcell7 k hlt
          clear hcell7 x1 y1 p1 hk7 ht hk9 hr7 e1 e2 haN' haN
          go_wp2
          obtain ⟨W0, hW0⟩ : ∃ W0, W0 = w7.drewN 1 := ⟨_, rfl⟩
          have m0 : W0.cell? ⟨w5.heap.size, 0, none⟩ = some (.slice (some ⟨pb, po, none⟩) N s.c) := by rw [hW0]; exact hz0
          have m1 : W0.cell? ⟨w5.heap.size, 1, none⟩ = some (.int .i64 s.er) := by rw [hW0]; exact hz1'
          have m2 : W0.cell? ⟨pb, po + k, none⟩ = some (.int .i64 (shp s k)) := by rw [hW0]; exact hck
          have mo : W0.cell? ⟨rb, k, none⟩ = some (.int .i64 (rgtTo l q k)) := by rw [hW0]; exact hold
          have mf : W0.frozen? ⟨rb, k, none⟩ = false := by rw [hW0]; exact hofr
          refine Fx.region (fun f w' => (f 14 = false → w' = W0) ∧ (f 14 = true → w' = W0.setCell ⟨rb, k, none⟩ (.int .i64 (rgtTo l q k + shp s k * s.er)))) (by kernel_rfl) (by kernel_rfl) ?_ ?_
          · intro f hf0
            exact ⟨fun _ => hW0.symm, fun h => by rw [hf0 14] at h; cases h⟩
          have HW0 := Lib.hid hW0
          clear hW0
          repeat (first
            | (refine Fx.skip_ (by rfl) (fun f w h => h) ?_; simp only [Act.put, List.setIfInBounds_toArray, List.set_cons_zero, List.set_cons_succ])
            | (refine Fx.val_ ?_ (by rfl) ?_ (fun f w h => h) ?_
               rotate_left
               · intro f w' hD hk
                 obtain ⟨jw, jr⟩ := id hD
                 have jw := jw (hk.2.1 14 (by kernel_rfl))
                 have q0 : w'.cell? ⟨w5.heap.size, 0, none⟩ = some (.slice (some ⟨pb, po, none⟩) N s.c) := by rw [jw]; exact m0
                 have q1 : w'.cell? ⟨w5.heap.size, 1, none⟩ = some (.int .i64 s.er) := by rw [jw]; exact m1
                 have q2 : w'.cell? ⟨pb, po + k, none⟩ = some (.int .i64 (shp s k)) := by rw [jw]; exact m2
                 have qo : w'.cell? ⟨rb, k, none⟩ = some (.int .i64 (rgtTo l q k)) := by rw [jw]; exact mo
                 clear hk hD jw jr
                 go_simp
                 try rfl
               simp only [Act.put, List.setIfInBounds_toArray, List.set_cons_zero, List.set_cons_succ]))
          refine Fx.store_ (fun w' => w'.setCell ⟨rb, k, none⟩ (.int .i64 (rgtTo l q k + shp s k * s.er))) (by rfl) ?_ ?_ ?_
          · intro f w' hD hk
            obtain ⟨jw, jr⟩ := id hD
            have jw := jw hk.1
            have q0 : w'.cell? ⟨rb, k, none⟩ = some (.int .i64 (rgtTo l q k)) := by rw [jw]; exact mo
            have q1 : w'.frozen? ⟨rb, k, none⟩ = false := by rw [jw]; exact mf
            clear hk hD jw jr
            go_simp
          · intro f w' hD hk
            obtain ⟨jw, jr⟩ := id hD
            have jw := jw hk.1
            exact ⟨fun h => by simp [Fx.add] at h, fun _ => by rw [jw]⟩
          simp only [Act.put, List.setIfInBounds_toArray, List.set_cons_zero, List.set_cons_succ]
          refine Fx.nil_ ?_
          intro f w8 hall hD
          have hwn := hD.2 (hall 14 (by simp))
          rw [HW0.out] at hwn
          clear hall hD HW0 mo mf m0 m1 m2
          have ht8 : Tch (fun g => g = w3.heap.size ∨ g = rb) w4 w8 := by
            rw [hwn]
            exact ((((HT5.out.call HB56.out).then_ HT7.out (fun i _ h => .inl h)).drewN 1).setCell (.inl (.inr rfl)) _)
          have hk8 : RB w8 w3.heap.size 3 N (fun j => .int .i64 (nrmTo l (q + 1) k j)) := by rw [hwn]; exact Blk.far (Blk.drewN HK9.out 1) (by simp; omega) _
          have hr8 : RB w8 rb 3 N (rgtV l k (q + 1)) := by
            rw [hwn]
            refine (RB.set_ (Blk.drewN HR7.out 1 : RB _ rb 3 N (rgtV l k q)) k _).congr fun j hj => ?_
            unfold rgtV
            by_cases hja : j = k
            · subst hja; rw [if_pos rfl, if_neg (by omega), if_pos rfl, rgtTo_succ HSQ.out]
            · rw [if_neg hja]
              by_cases h : j < k
              · rw [if_pos h, if_pos h]
              · rw [if_neg h, if_neg hja, if_neg h, if_neg hja]
          have HT8 := Lib.hid ht8
          have HK8 := Lib.hid hk8
          have HR8 := Lib.hid hr8
          clear ht8 hk8 hr8 hwn v1 v2 hold hofr hck hz0 hz1' hst7 hc7
          go_wp2
          go_roundw
          case rel => exact ⟨q + 1, by omega, by go_num, HT8.out, HK8.out, HR8.out⟩
          case measure => simp [intOf]; omega

end Go.Proofs.Ytclnffpfbngjoaa

end
