import Derived.Test.YtclnffpfbngjoaaProg
import Derived.WalkKit
import Derived.WalkSpells
import Derived.WalkLawsBesides
import Derived.BigQuiet
import Derived.Lib.Hide
import Derived.Below
import Derived.Laws.OwnMore
import Derived.Deep.AppendLies
import Derived.Deep.Draws
import Derived.Laws.Rows
import Derived.Maps.AppendAt
import Derived.RegionTactic
import Derived.OwnWalk
import Derived.Deep.OwnRows
import Derived.Laws.AppendOwn
import Derived.ChangeSame
import Derived.Tactics
import Derived.Deep.QuietTactic
import Derived.Laws.MakeOwn
import Derived.Laws.Entries
import Derived.Still
import Derived.KernelRfl

section
/- Contracts of the small integer functions: absolute value, greatest common divisor, bounds. -/
namespace Go.Proofs.Ytclnffpfbngjoaa
open Go.RowKit

theorem ret_int {k : IntKind} {a b : Int} (h : a = b) : Ending.returned (.int k a) = .returned (.int k b) := by rw [h]

theorem abs_any (a : Int) (w : World) (h1 : -9223372036854775808 ≤ a) (h2 : a ≤ 9223372036854775807) :
    Calls Try.prog 89 #[.int .i64 a] w fun e w' => e = .returned (.int .i64 (wrap64 (a.natAbs : Int))) ∧ w = w' := by
  go_enter Try.func89, Try.ntmps89
  go_wp2
  all_goals go_ret
  · exact ⟨ret_int (show wrap64 (-a) = _ from by congr 1; omega), rfl⟩
  · exact ⟨ret_int (show a = _ from by rw [IntWalk.wrap64_in _ ⟨by omega, by omega⟩]; omega), rfl⟩

theorem gcd_tmod (c d : Int) : Int.gcd d (c.tmod d) = Int.gcd c d := by
  rw [Int.gcd_comm d]
  unfold Int.gcd
  rw [Int.natAbs_tmod, Nat.gcd_comm c.natAbs, Nat.gcd_rec d.natAbs]

theorem tmod_lt (c d : Int) (hd : d ≠ 0) : (c.tmod d).natAbs < d.natAbs := by
  rw [Int.natAbs_tmod]; exact Nat.mod_lt _ (by omega)

theorem tmod_in (c d : Int) (h1 : -9223372036854775808 ≤ d) (h2 : d ≤ 9223372036854775807) (hd : d ≠ 0) : -9223372036854775808 ≤ c.tmod d ∧ c.tmod d ≤ 9223372036854775807 := by
  have := tmod_lt c d hd
  omega


theorem neg_min : wrap64 (-(-9223372036854775808)) = -9223372036854775808 := by unfold wrap64; decide
theorem abs_min : wrap64 (((-9223372036854775808 : Int).natAbs : Nat) : Int) = -9223372036854775808 := by unfold wrap64; decide

theorem max_lt (a : Int) (h1 : -9223372036854775808 ≤ a) (h2 : a ≤ 9223372036854775807) (h : a < wrap64 (-a)) : wrap64 (-a) = wrap64 (a.natAbs : Int) := by
  by_cases e : a = -9223372036854775808
  · subst e; rw [neg_min] at h; omega
  · rw [IntWalk.wrap64_in _ ⟨by omega, by omega⟩] at h ⊢; rw [IntWalk.wrap64_in _ ⟨by omega, by omega⟩]; omega

theorem max_ge (a : Int) (h1 : -9223372036854775808 ≤ a) (h2 : a ≤ 9223372036854775807) (h : ¬ a < wrap64 (-a)) : a = wrap64 (a.natAbs : Int) := by
  by_cases e : a = -9223372036854775808
  · subst e; rw [abs_min]
  · rw [IntWalk.wrap64_in _ ⟨by omega, by omega⟩] at h; rw [IntWalk.wrap64_in _ ⟨by omega, by omega⟩]; omega

theorem gcdpt_any (a b : Int) (w : World) (h1 : -9223372036854775808 ≤ a) (h2 : a ≤ 9223372036854775807) (h3 : -9223372036854775808 ≤ b) (h4 : b ≤ 9223372036854775807) :
    Calls Try.prog 33 #[.int .i64 a, .int .i64 b] w fun e w' => e = .returned (.int .i64 (wrap64 (Int.gcd a b : Int))) ∧ ∃ n, w' = w.drewN n := by
  go_enter Try.func33, Try.ntmps33
  go_wp2
  go_loopw [0, 1] (fun x y wr => ∃ c d : Int, x = .int .i64 c ∧ y = .int .i64 d ∧ -9223372036854775808 ≤ c ∧ c ≤ 9223372036854775807 ∧ -9223372036854775808 ≤ d ∧ d ≤ 9223372036854775807 ∧ Int.gcd c d = Int.gcd a b ∧ ∃ n, wr = w.drewN n) (fun _ y _ => (intOf y).natAbs)
  case atStart => exact ⟨a, b, rfl, rfl, h1, h2, h3, h4, rfl, 0, rfl⟩
  case round =>
    obtain ⟨c, d, rfl, rfl, k1, k2, k3, k4, hg, n, rfl⟩ := hrel
    have HG := Lib.hid hg
    clear hg
    by_cases hd : d = 0
    · subst hd
      go_wp2
      all_goals go_ret
      · have h : c < wrap64 (-c) := by assumption
        exact ⟨ret_int (show wrap64 (-c) = _ from by rw [max_lt c k1 k2 h, ← HG.out]; simp), _, rfl⟩
      · have h : ¬ c < wrap64 (-c) := by first | assumption | (have h : wrap64 (-c) ≤ c := by assumption); omega
        exact ⟨ret_int (show c = _ from by rw [← HG.out]; simpa using max_ge c k1 k2 h), _, rfl⟩
    · have ht := tmod_in c d k3 k4 hd
      have hl := tmod_lt c d hd
      go_wp2
      go_quiet (fail)
      go_wp2
      go_roundw
      case rel => exact ⟨d, c.tmod d, rfl, rfl, k3, k4, ht.1, ht.2, (gcd_tmod c d).trans HG.out, _, World.drewN_drewN _ _ _⟩
      case measure => exact hl



/-- Whether a number lies between two others. -/
def withinB (n lo hi : Int) : Bool := decide (lo ≤ n) && decide (n ≤ hi)
theorem withinB_iff (n lo hi : Int) : withinB n lo hi = true ↔ lo ≤ n ∧ n ≤ hi := by simp [withinB]

theorem withinref_any (n lo hi : Int) (w : World) :
    Calls Try.prog 26 #[.int .i64 n, .int .i64 lo, .int .i64 hi] w fun e w' => e = .returned (.bool (withinB n lo hi)) ∧ w = w' := by
  by_cases h1 : lo ≤ n
  · go_enter Try.func26, Try.ntmps26
    go_wp2
    go_ret
    exact ⟨by simp [withinB, h1], rfl⟩
  · go_enter Try.func26, Try.ntmps26
    go_wp2
    go_ret
    exact ⟨by simp [withinB]; omega, rfl⟩

theorem withinpt_any (n lo hi : Int) (w : World) :
    Calls Try.prog 43 #[.int .i64 n, .int .i64 lo, .int .i64 hi] w fun e w' => e = .returned (.bool (withinB n lo hi)) ∧ w = w' := by
  by_cases h1 : lo ≤ n
  · go_enter Try.func43, Try.ntmps43
    go_wp2
    go_ret
    exact ⟨by simp [withinB, h1], rfl⟩
  · go_enter Try.func43, Try.ntmps43
    go_wp2
    go_ret
    exact ⟨by simp [withinB]; omega, rfl⟩


theorem withinpt_is (n lo hi : Int) (t : Bool) (h : withinB n lo hi = t) (w : World) :
    Calls Try.prog 43 #[.int .i64 n, .int .i64 lo, .int .i64 hi] w fun e w' => e = .returned (.bool t) ∧ w = w' := h ▸ withinpt_any n lo hi w

theorem withinref_is (n lo hi : Int) (t : Bool) (h : withinB n lo hi = t) (w : World) :
    Calls Try.prog 26 #[.int .i64 n, .int .i64 lo, .int .i64 hi] w fun e w' => e = .returned (.bool t) ∧ w = w' := h ▸ withinref_any n lo hi w

end Go.Proofs.Ytclnffpfbngjoaa

end

section
/- Lemmas on memory, for copying out of the guide's pages of extra lemmas: slices that read as lists, blocks known whole, appends, frames, results. -/
namespace Go.Proofs.Ytclnffpfbngjoaa
open Go.RowKit Go.WideShapes Go.ChangeShapes

theorem add_lit (b o n : Nat) : Addr.add ⟨b, o, none⟩ n = ⟨b, o + n, none⟩ := Addr.add_lit b o n

/-- The slice value '.slice A n c' holds the cells xs (so many a piece as size says), in a block below B. -/
def Reads (w : World) (B size : Nat) (A : Option Addr) (n : Nat) (xs : List Value) : Prop :=
  xs.length = n * size ∧ (0 < n → ∃ b o, A = some ⟨b, o, none⟩ ∧ b < B ∧ ∀ j u, xs[j]? = some u → w.cell? ⟨b, o + j, none⟩ = some u)

section
variable {w w' : World} {B B' size n : Nat} {A : Option Addr} {xs : List Value}
theorem Reads.none_ : Reads w B size A 0 [] := ⟨by simp, fun h => absurd h (by omega)⟩
theorem Reads.at_ {k : Nat} (h : Reads w B 1 A n xs) (hk : k < n) : ∃ b o u, A = some ⟨b, o, none⟩ ∧ b < B ∧ xs[k]? = some u ∧ w.cell? ⟨b, o + k, none⟩ = some u := by
  obtain ⟨b, o, e, hb, hc⟩ := h.2 (by omega)
  have hl : k < xs.length := by have := h.1; omega
  exact ⟨b, o, xs[k], e, hb, List.getElem?_eq_getElem hl, hc k _ (List.getElem?_eq_getElem hl)⟩
theorem Reads.keep (h : Reads w B size A n xs) (hk : ∀ p : Addr, p.block < B → w'.cell? p = w.cell? p) : Reads w' B size A n xs :=
  ⟨h.1, fun hn => by
    obtain ⟨b, o, e, hb, hc⟩ := h.2 hn
    exact ⟨b, o, e, hb, fun j u hu => (hk _ hb).trans (hc j u hu)⟩⟩
theorem Reads.more (h : Reads w B size A n xs) (hB : B ≤ B') : Reads w B' size A n xs :=
  ⟨h.1, fun hn => by
    obtain ⟨b, o, e, hb, hc⟩ := h.2 hn
    exact ⟨b, o, e, by omega, hc⟩⟩
theorem Reads.below (h : Reads w B size A n xs) (hb : Below B w w') : Reads w' B size A n xs := h.keep fun _ hp => hb.cell hp
theorem Reads.belowLe (h : Reads w B size A n xs) (hb : Below B' w w') (hB : B ≤ B') : Reads w' B size A n xs := h.keep fun _ hp => hb.cell (by omega)
theorem Reads.drew (h : Reads w B size A n xs) : Reads w.drew B size A n xs := h
theorem Reads.drewN (h : Reads w B size A n xs) (k : Nat) : Reads (w.drewN k) B size A n xs := h
theorem Reads.alloc (h : Reads w B size A n xs) (hB : B ≤ w.heap.size) (o : Obj) : Reads (w.alloc o) B size A n xs := h.keep fun p hp => World.cell?_alloc_lt w o p (by omega)
theorem Reads.setCell (h : Reads w B size A n xs) {p : Addr} (hB : B ≤ p.block) (u : Value) : Reads (w.setCell p u) B size A n xs :=
  h.keep fun q hq => World.cell?_setCell_other w p q u (fun e => by subst e; omega)
theorem Reads.grown (h : Reads w B size A n xs) {row : Option Nat} (hg : w.grownBy w' row) (hB : B ≤ w.heap.size) (hr : ∀ g, row = some g → B ≤ g) : Reads w' B size A n xs :=
  h.keep fun p hp => World.cell?_of_block (hg.block p.block (by omega) (fun e => by have := hr _ e.symm; omega))
theorem Reads.cut (h : Reads w B size A n xs) {k cap : Nat} (hk : k ≤ n) (hc : n ≤ cap) :
    Reads w B size (if cap = k then A else A.map (·.add (k * size))) (n - k) (xs.drop (k * size)) := by
  refine ⟨by rw [List.length_drop, h.1, Nat.sub_mul], fun hn => ?_⟩
  obtain ⟨b, o, rfl, hb, hcell⟩ := h.2 (by omega)
  rw [if_neg (by omega)]
  refine ⟨b, o + k * size, by rw [Option.map_some, add_lit], hb, fun j u hu => ?_⟩
  rw [Nat.add_assoc]
  exact hcell _ u (by rw [← hu, List.getElem?_drop])
theorem Reads.take_ (h : Reads w B size A n xs) {k : Nat} (hk : k ≤ n) : Reads w B size A k (xs.take (k * size)) := by
  have hm : k * size ≤ n * size := Nat.mul_le_mul_right _ hk
  refine ⟨by rw [List.length_take, h.1]; omega, fun hn => ?_⟩
  obtain ⟨b, o, rfl, hb, hcell⟩ := h.2 (by omega)
  refine ⟨b, o, rfl, hb, fun j u hu => hcell j u ?_⟩
  rw [List.getElem?_take] at hu
  split at hu
  · exact hu
  · cases hu
/-- A cell that holds something is a plain place. -/
theorem plain_of_cell {a : Addr} {v : Value} (h : w.cell? a = some v) : a = ⟨a.block, a.off, none⟩ := by
  obtain ⟨b, o, sp⟩ := a
  cases sp with
  | none => rfl
  | some x =>
    unfold World.cell? at h
    simp only [Option.isSome_some, if_true] at h
    split at h <;> cases h
theorem Reads.of_adds {a : Addr} (hsz : 0 < size) (hl : xs.length = n * size) (hb : a.block < B) (hc : ∀ j u, xs[j]? = some u → w.cell? (a.add j) = some u) : Reads w B size (some a) n xs := by
  refine ⟨hl, fun hn => ?_⟩
  have h0 : 0 < xs.length := by rw [hl]; exact Nat.mul_pos hn hsz
  have hp := plain_of_cell (by simpa [Addr.add] using hc 0 _ (List.getElem?_eq_getElem h0))
  refine ⟨a.block, a.off, by rw [← hp], hb, fun j u hu => ?_⟩
  have := hc j u hu
  rw [hp, add_lit] at this
  exact this
end

def Blk (w : World) (g : Nat) (t : TypeId) (cs : Array Value) : Prop := w.heap[g]? = some (.cells cs t (0, 0))

section
variable {w w' : World} {g : Nat} {t : TypeId} {cs : Array Value}
theorem Blk.lt (h : Blk w g t cs) : g < w.heap.size := by
  rcases Nat.lt_or_ge g w.heap.size with hlt | hge
  · exact hlt
  · unfold Blk at h; rw [Array.getElem?_eq_none hge] at h; cases h
theorem Blk.cell (h : Blk w g t cs) (i : Nat) : w.cell? ⟨g, i, none⟩ = cs[i]? := cell_of_row w g i cs t (0, 0) h
theorem Blk.frozen (h : Blk w g t cs) (i : Nat) : w.frozen? ⟨g, i, none⟩ = false := by
  unfold Blk at h
  simp [World.frozen?, h]
theorem Blk.new (w : World) (t : TypeId) (cs : Array Value) : Blk (w.alloc (.cells cs t)) w.heap.size t cs := heap_alloc_new w _
theorem Blk.at_ (w : World) {g : Nat} (h : w.heap.size = g) (t : TypeId) (cs : Array Value) : Blk (w.alloc (.cells cs t)) g t cs := h ▸ Blk.new w t cs
theorem Blk.drew (h : Blk w g t cs) : Blk w.drew g t cs := h
theorem Blk.drewN (h : Blk w g t cs) (n : Nat) : Blk (w.drewN n) g t cs := h
theorem Blk.alloc (h : Blk w g t cs) (o : Obj) : Blk (w.alloc o) g t cs := (Below.heap_alloc w o g h.lt).trans h
theorem Blk.set_ (h : Blk w g t cs) (i : Nat) (u : Value) : Blk (w.setCell ⟨g, i, none⟩ u) g t (cs.setIfInBounds i u) := by
  unfold Blk at h ⊢
  simp [World.setCell, Array.getElem?_modify, h]
theorem Blk.far (h : Blk w g t cs) {p : Addr} (hp : g ≠ p.block) (u : Value) : Blk (w.setCell p u) g t cs := (Below.heap_setCell w p u g hp).trans h
theorem Blk.below {B : Nat} (h : Blk w g t cs) (hb : Below B w w') (hg : g < B) : Blk w' g t cs := (hb.block g hg).trans h
theorem Blk.grown {row : Option Nat} (h : Blk w g t cs) (hb : w.grownBy w' row) (hg : some g ≠ row) : Blk w' g t cs := (hb.block g h.lt hg).trans h
theorem Blk.ne_ {g' : Nat} {t' : TypeId} {cs' : Array Value} (h : Blk w g t cs) (h' : Blk w g' t' cs') (hne : t ≠ t') : g ≠ g' := by
  rintro rfl
  unfold Blk at h h'
  rw [h] at h'
  injection h' with h'
  injection h' with _ ht
  exact hne ht
theorem own_blk_ne {base : Nat} {e : TypeId} {size n : Nat} {v : Value} {xs : List Value} (h : w.ownsRow base e size v n xs) (hg : Blk w g t cs) (hne : e ≠ t) : v.ownBlock ≠ some g := by
  rcases h.2 with ⟨rfl, _⟩ | ⟨g', cap, cur, rfl, _, hh, _⟩
  · simp [Value.ownBlock]
  · intro he
    have : g' = g := by simpa [Value.ownBlock] using he
    subst this
    exact Blk.ne_ (t := e) hh hg hne rfl
end

section
variable {P : Program} (w : World)

theorem run_append_of_nil (base : Nat) (t ty e : TypeId) (i : TypeInfo) (size : Nat) (ht : P.underlying t = some (.slice e)) (hi : P.info? e = some i)
    (v : Value) (n : Nat) (xs : List Value) (hown : w.ownsRow base e size v n xs) (c : Nat) : (Builtin.append_ #[t, t] ty #[v, .slice none 0 c]).run P w = .ok v w := by
  rcases hown.2 with ⟨rfl, rfl⟩ | ⟨g, cap, cur, rfl, _, _, hnc, _⟩
  · simp [Builtin.append_, run_underlying ht, sizeOf, typeInfo, hi, Builtin.lenOf, Builtin.firstCells]
  · simp [Builtin.append_, run_underlying ht, sizeOf, typeInfo, hi, Builtin.lenOf, Builtin.firstCells, hnc, storeCells]

theorem run_append_any (base : Nat) (t ty e : TypeId) (i : TypeInfo) (z : Value) (size bytes : Nat) (ht : P.underlying t = some (.slice e)) (hi : P.info? e = some i) (hz : i.zero = some z)
    (hsize : i.size = size) (hby : i.bytes = bytes) (hzs : z.cells.size = size) (hsz : 0 < size)
    (v : Value) (n : Nat) (xs : List Value) (hown : w.ownsRow base e size v n xs)
    (B : Nat) (A : Option Addr) (m c : Nat) (news : List Value) (hr : Reads w B size A m news) (h1 : ∀ u ∈ news, u.oneCell' = true)
    (h63 : n + m ≤ maxLen) (hbytes : (n + m) * bytes ≤ 140737488355328) (hbase : base ≤ w.heap.size) :
    ∃ v' w', (Builtin.append_ #[t, t] ty #[v, .slice A m c]).run P w = .ok v' w' ∧ w'.ownsRow base e size v' (n + m) (xs ++ news) ∧ w.grownBy w' v.ownBlock ∧
      (v'.ownBlock = v.ownBlock ∨ v'.ownBlock = some w.heap.size) := by
  rcases A with _ | ad
  · have hm : m = 0 := by
      rcases Nat.eq_zero_or_pos m with h0 | h0
      · exact h0
      · obtain ⟨_, _, h, _⟩ := hr.2 h0
        cases h
    subst hm
    have hn : news = [] := List.eq_nil_of_length_eq_zero (by simpa using hr.1)
    subst hn
    exact ⟨v, w, run_append_of_nil w base t ty e i size ht hi v n xs hown c, by simpa using hown, World.grownBy.refl w _, .inl rfl⟩
  · have hcells : ∀ j u, news[j]? = some u → w.cell? (ad.add j) = some u := by
      intro j u hu
      rcases Nat.eq_zero_or_pos m with h0 | h0
      · subst h0
        have hn : news = [] := List.eq_nil_of_length_eq_zero (by simpa using hr.1)
        subst hn
        simp at hu
      · obtain ⟨b', o', h, _, hc⟩ := hr.2 h0
        injection h with h
        subst h
        rw [add_lit]
        exact hc j u hu
    obtain ⟨v', w', hrun, h2, h3, _, h5⟩ := run_append_own_at (P := P) w base t ty e i z size bytes ht hi hz hsize hby hzs hsz v n xs hown ad m c news hr.1 hcells h1 h63 hbytes hbase
    exact ⟨v', w', hrun, h2, h3, h5⟩

end

theorem below_drewN {B : Nat} {a w : World} (h : Below B a w) (n : Nat) : Below B a (w.drewN n) := ⟨h.os, h.tape, h.output, h.size, h.block⟩
section
variable {H : Type} {enc : TypeId × Value → H} {P : Program}
theorem post_of_below {f : Func} {s : ChangeSpec} {apart fresh handsOn again : Bool} {W W' : World} {args : Array Value} {v : Value} {ds gs : List (DataW H)} {before pa pv : List MemPlace}
    (hW : DataW.Whole enc P f.params.toList s.vars apart W args.toList ds gs before)
    (hres : ∀ (b : Nat) (sp : Nat → Bool) (hd : Bool), DataW.TrodAll enc P W' b sp hd f.resultTypes.toList (v.resultList f.resultTypes.size) (s.fn H (ds ++ gs)).results [])
    (hargs : ∀ sp : Nat → Bool, (∀ p ∈ before, sp p.block = true) → DataW.TrodAll enc P W' 0 sp true f.params.toList args.toList (s.fn H (ds ++ gs)).args pa)
    (hvars : ∀ sp : Nat → Bool, (∀ p ∈ before, sp p.block = true) → DataW.TrodVars enc P W' sp s.vars (s.fn H (ds ++ gs)).vars pv)
    (hps : before = pa ++ pv) (hb : Below W.heap.size W W')
    (hok : ∀ (j : Nat) (t : TypeId) (r : Value), f.resultTypes[j]? = some t → (v.resultList f.resultTypes.size)[j]? = some r → Value.okWide P W' .any 0 t r) :
    s.post enc P f apart fresh handsOn again W args v W' := by
  have hlt : ∀ p ∈ before, p.block < W.heap.size := fun p hp => hW.lt p hp
  have hold : ∀ p ∈ before, (fun b => decide (b < W.heap.size)) p.block = true := fun p hp => by simpa using hlt p hp
  refine ⟨ds, gs, before, [], pa, pv, hW, hres _ _ _, hargs _ hold, hvars _ hold, World.keptBut_mono (fun p hp => ⟨hp, ?_⟩) (hb.frame (· ∈ before)), fun _ => ?_⟩
  · rw [hps, List.mem_append] at hp
    exact Or.inr hp
  · obtain ⟨_, _, _, _, _, hz, hn⟩ := hW
    refine ⟨hok, _, _, ([] ++ pa) ++ pv, ⟨[] ++ pa, pv, trodAll_append (hargs _ (fun _ _ => rfl)) (hres _ _ _), hvars _ (fun _ _ => rfl), rfl, ?_, ?_⟩, ?_⟩
    · intro b off hp
      have hin : MemPlace.cell b off ∈ before := by rw [hps]; simpa using hp
      rw [hb.frozen (hlt _ hin)]
      exact hz b off hin
    · intro ha
      have := hn ha
      rw [hps] at this
      simpa using this
    · intro p hp _
      rw [hps]
      simpa using hp
end

theorem run_make_rowN {P : Program} (t e : TypeId) (i : TypeInfo) (z : Value) (ht : P.underlying t = some (.slice e)) (hi : P.info? e = some i) (hz : i.zero = some z)
    (kl kc : IntKind) (n c : Nat) (hnc : n ≤ c) (hbytes : i.bytes * c ≤ 281474976710656) (h63 : c ≤ 9223372036854775807) (w : World) :
    (Instr.makeSlice t (.int kl (n : Int)) (.int kc (c : Int))).run P w = .ok (.slice (some ⟨w.heap.size, 0, none⟩) n c) (w.alloc (.cells (madeCells z.cells (c * i.size)) e)) := by
  have hb : (i.bytes : Int) * (c : Int) ≤ 281474976710656 := by
    have h : ((i.bytes * c : Nat) : Int) ≤ 281474976710656 := by omega
    rwa [Int.natCast_mul] at h
  have hr := run_make (P := P) w t e i z ht hi hz kl kc n c (by omega) (by omega) hb (by omega)
  simp only [Int.toNat_natCast] at hr
  exact hr
end Go.Proofs.Ytclnffpfbngjoaa

end

section
/- A rule for a region whose order is left open and which also writes: one walk in the order of the text serves every order, if each operation yields the same value wherever it may come up. The class of worlds is indexed by what has come up. -/
namespace Go.Proofs.Ytclnffpfbngjoaa.Fx
open Go Go.RowKit

section
variable {P : Program} {ops : Array Oper} {md : Region.Mode}

/-- From the world w the operation yields v and leaves a world of R. -/
def Gives (P : Program) (o : Oper) (a : Act) (w : World) (v : Value) (R : World → Prop) : Prop :=
  match (execOp a.eval o).run P w with
  | .ok (.value u) w' => u = v ∧ R w'
  | .ok .skip w' => v = undef ∧ R w'
  | .ok (.enter f args) w' => Calls P f args w' fun e w'' => e = .returned v ∧ R w''
  | _ => False

theorem Gives.congr {o : Oper} {a a' : Act} {w : World} {v : Value} {R : World → Prop} (h : Gives P o a w v R) (he : execOp a'.eval o = execOp a.eval o) : Gives P o a' w v R := by
  unfold Gives; rw [he]; exact h

theorem Gives.wp {o : Oper} {a : Act} {w : World} {v : Value} {R : World → Prop} {K : Act → World → Prop} {Q : Exit → Act → World → Prop} (h : Gives P o a w v R) (hk : ∀ w', R w' → K (a.put o.dst v) w') : o.wp P a w K Q := by
  unfold Oper.wp
  unfold Gives at h
  generalize (execOp a.eval o).run P w = r at *
  cases r with
  | halt x w' => exact h.elim
  | ok n w' =>
    cases n
    case value u => obtain ⟨rfl, hr⟩ := h; exact hk _ hr
    case skip => obtain ⟨rfl, hr⟩ := h; exact hk _ hr
    case enter f args => exact Calls.mono h fun e w'' ⟨he, hr⟩ => by subst he; exact hk _ hr
    all_goals exact h.elim

/-- Wherever number i may come up: it yields v, or (its guard says no) nothing. -/
def Sure (P : Program) (md : Region.Mode) (ops : Array Oper) (C : Array Bool → World → Prop) (i : Nat) (o : Oper) (v : Value) (a : Act) : Prop :=
  (Region.wanted o (yielded ops a.tmps) = true ∧ ∀ L w, C L w → i ∈ Region.ready md ops L → Gives P o a w v (C (L.setIfInBounds i true))) ∨
  (Region.wanted o (yielded ops a.tmps) = false ∧ v = undef ∧ ∀ L w, C L w → i ∈ Region.ready md ops L → C (L.setIfInBounds i true) w)

theorem Sure.same {C : Array Bool → World → Prop} {i : Nat} {o : Oper} {v : Value} {a a' : Act} (h : Sure P md ops C i o v a) (he : execOp a'.eval o = execOp a.eval o)
    (hw : Region.wanted o (yielded ops a'.tmps) = Region.wanted o (yielded ops a.tmps)) : Sure P md ops C i o v a' := by
  rcases h with ⟨h1, h2⟩ | h1
  · exact .inl ⟨hw.trans h1, fun L w hc hr => (h2 L w hc hr).congr he⟩
  · exact .inr ⟨hw.trans h1.1, h1.2⟩

def anyF (P : Program) (md : Region.Mode) (ops : Array Oper) (C : Array Bool → World → Prop) (Q : Array Bool → Act → Prop) : Nat → Array Bool → Act → Prop
  | 0, L, a => Region.ready md ops L = [] ∧ Q L a
  | n + 1, L, a => (Region.ready md ops L = [] → Q L a) ∧
      ∀ i ∈ Region.ready md ops L, ∃ o v, ops[i]? = some o ∧ Sure P md ops C i o v a ∧ anyF P md ops C Q n (L.setIfInBounds i true) (a.put o.dst v)

theorem wpAny_of_anyF {C : Array Bool → World → Prop} {Q : Array Bool → Act → Prop} {Q' : Exit → Act → World → Prop} (hQ : ∀ L a w, C L w → Q L a → Q' .normal a w) :
    ∀ (n : Nat) (L : Array Bool) (a : Act) (w : World), C L w → anyF P md ops C Q n L a → wpAny P md ops Q' n L a w
  | 0, _, _, _, hc, h => ⟨h.1, hQ _ _ _ hc h.2⟩
  | n + 1, L, a, w, hc, h => ⟨fun h0 => hQ _ _ _ hc (h.1 h0), fun i hi => by
      obtain ⟨o, v, ho, hs, hn⟩ := h.2 i hi
      unfold wpOp
      simp only [ho]
      rcases hs with ⟨h1, h2⟩ | ⟨h1, h2, h3⟩
      · rw [if_pos h1]
        exact .inl ((h2 L w hc hi).wp fun w' hw' => wpAny_of_anyF hQ n _ _ w' hw' hn)
      · rw [if_neg (by rw [h1]; exact Bool.false_ne_true)]
        subst h2
        exact wpAny_of_anyF hQ n _ _ w (h3 L w hc hi) hn⟩

/-- What may come up may be taken first, if all that could come before it is apart from it. -/
theorem anyF_first {C : Array Bool → World → Prop} {Q : Array Bool → Act → Prop} {i : Nat} {oi : Oper} {v : Value} (hi : ops[i]? = some oi) (hsel : ∀ (j : Nat) (o : Oper) cs b, ops[j]? = some o → o.op ≠ .select cs b) :
    ∀ (n : Nat) (L : Array Bool) (a : Act),
      (∀ j oj, ops[j]? = some oj → j ≠ i → L.getD j true = false → (∀ e ∈ oj.after, Region.binds md e = true → e.on ≠ i) → oi.apart ops oj = true) →
      i ∈ Region.ready md ops L → Sure P md ops C i oi v a →
      anyF P md ops C Q n (L.setIfInBounds i true) (a.put oi.dst v) → anyF P md ops C Q (n + 1) L a := by
  intro n
  induction n with
  | zero =>
    intro L a _ hr hs H
    refine ⟨fun h => (by rw [h] at hr; cases hr), fun j hj => ?_⟩
    by_cases hji : j = i
    · subst hji; exact ⟨oi, v, hi, hs, H⟩
    · have := ready_mono hj hji
      rw [H.1] at this
      cases this
  | succ n ih =>
    intro L a hfree hr hs H
    refine ⟨fun h => (by rw [h] at hr; cases hr), fun j hj => ?_⟩
    by_cases hji : j = i
    · subst hji; exact ⟨oi, v, hi, hs, H⟩
    · obtain ⟨oj, u, hoj, hsj, hn⟩ := H.2 j (ready_mono hj hji)
      obtain ⟨hjun, oj', hoj', hall⟩ := mem_ready.1 hj
      obtain rfl : oj' = oj := Option.some.inj (hoj'.symm.trans hoj)
      have hnot : ∀ e ∈ oj'.after, Region.binds md e = true → e.on ≠ i := fun e he hb heq => by
        have h1 := hall e he hb
        have h0 := (mem_ready.1 hr).1
        rw [heq] at h1
        rcases Nat.lt_or_ge i L.size with h' | h'
        · simp [h'] at h0 h1; rw [h0] at h1; cases h1
        · simp [Array.getElem?_eq_none h'] at h1
      obtain ⟨a1, a2, a3⟩ := Oper.apart_spec (hfree j oj' hoj hji hjun hnot)
      refine ⟨oj', u, hoj, hsj.same (execOp_put oj' (fun cs b => hsel j oj' cs b hoj) a oi.dst v a1).symm (wanted_put oj' a oi.dst v a1).symm, ?_⟩
      refine ih _ _ (fun k ok hk hki hun hno => hfree k ok hk hki ?_ hno) (ready_mono hr (Ne.symm hji))
        (hs.same (execOp_put oi (fun cs b => hsel i oi cs b hi) a oj'.dst u a3) (wanted_put oi a oj'.dst u a3)) ?_
      · by_cases hjk : j = k
        · subst hjk; exact hjun
        · rw [getD_set_ne true hjk] at hun; exact hun
      · rw [Array.setIfInBounds_comm _ _ hji, ← Act.put_comm a v u a2]
        exact hn

/-- The walk in the order of the text. -/
def lexF (P : Program) (md : Region.Mode) (ops : Array Oper) (C : Array Bool → World → Prop) (Q : Array Bool → Act → Prop) : List Oper → Nat → Array Bool → Act → Prop
  | [], _, L, a => Q L a
  | o :: l, k, L, a => ∃ v, Sure P md ops C k o v a ∧ lexF P md ops C Q l (k + 1) (L.setIfInBounds k true) (a.put o.dst v)

theorem anyF_lex {C : Array Bool → World → Prop} {Q : Array Bool → Act → Prop} (hs : Region.noSelect ops = true) : ∀ (l : List Oper) (k : Nat) (L : Array Bool) (a : Act), (∀ j, l[j]? = ops[k + j]?) →
    Region.lexFrom md ops l.length k L = true → lexF P md ops C Q l k L a → anyF P md ops C Q l.length L a
  | [], _, _, _, _, hB, h => ⟨by simpa [Region.lexFrom] using hB, h⟩
  | o :: l, k, L, a, hl, hB, h => by
    have h0 : ops[k]? = some o := by simpa using (hl 0).symm
    simp only [List.length_cons, Region.lexFrom, Bool.and_eq_true] at hB
    obtain ⟨⟨hr, hf⟩, hB'⟩ := hB
    obtain ⟨v, hy, hK⟩ := h
    exact anyF_first h0 (Region.noSelect_spec hs) l.length L a (Region.free_spec h0 hf) (by simpa using hr) hy
      (anyF_lex hs l (k + 1) _ _ (fun j => by have := hl (j + 1); simpa [Nat.add_assoc, Nat.add_comm 1 j] using this) hB' hK)

/-- What has come up is closed under what it waits for. -/
def Closed (md : Region.Mode) (ops : Array Oper) (L : Array Bool) : Prop :=
  L.size = ops.size ∧ ∀ j oj, ops[j]? = some oj → L.getD j false = true → ∀ e ∈ oj.after, Region.binds md e = true → L.getD e.on false = true

theorem Closed.start (md : Region.Mode) (ops : Array Oper) : Closed md ops (Array.replicate ops.size false) := by
  refine ⟨by simp, fun j oj _ h => ?_⟩
  simp only [Array.getD_eq_getD_getElem?, Array.getElem?_replicate] at h
  split at h <;> simp at h

theorem getD_false_of_true {L : Array Bool} {i : Nat} (h : L.getD i true = false) : L.getD i false = false ∧ i < L.size := by
  rcases Nat.lt_or_ge i L.size with h' | h'
  · simp [h'] at h ⊢; exact h
  · simp [Array.getElem?_eq_none h'] at h

theorem getD_set_same {L : Array Bool} {i : Nat} (h : i < L.size) : (L.setIfInBounds i true).getD i false = true := by
  simp [h]

theorem getD_set_ne' {L : Array Bool} {i j : Nat} (h : i ≠ j) : (L.setIfInBounds i true).getD j false = L.getD j false := by
  simp [Array.getElem?_setIfInBounds_ne h]

theorem Closed.set_ {L : Array Bool} {i : Nat} (h : Closed md ops L) (hr : i ∈ Region.ready md ops L) : Closed md ops (L.setIfInBounds i true) := by
  obtain ⟨h0, o, ho, hall⟩ := mem_ready.1 hr
  refine ⟨by simpa using h.1, fun j oj hoj hj e he hb => ?_⟩
  have hmono : L.getD e.on false = true → (L.setIfInBounds i true).getD e.on false = true := fun hx => getD_set_true hx
  by_cases hij : i = j
  · subst hij
    obtain rfl : oj = o := Option.some.inj (hoj.symm.trans ho)
    exact hmono (hall e he hb)
  · rw [getD_set_ne' hij] at hj
    exact hmono (h.2 j oj hoj hj e he hb)

/-- Does number j wait for number k? -/
def waits (md : Region.Mode) (ops : Array Oper) (j k : Nat) : Bool := ((ops[j]?).map fun o => o.after.any fun e => Region.binds md e && Nat.beq e.on k).getD false

/-- What is known of what has come up (f) where number k comes up. -/
def When (md : Region.Mode) (ops : Array Oper) (k : Nat) (f : Nat → Bool) : Prop :=
  f k = false ∧ (∀ j, waits md ops j k = true → f j = false) ∧ (∀ j, waits md ops k j = true → f j = true) ∧ (∀ i j, waits md ops i j = true → f i = true → f j = true)

theorem waits_spec {j k : Nat} (h : waits md ops j k = true) : ∃ oj, ops[j]? = some oj ∧ ∃ e ∈ oj.after, Region.binds md e = true ∧ e.on = k := by
  unfold waits at h
  cases ho : ops[j]? with
  | none => simp [ho] at h
  | some o =>
    simp only [ho, Option.map_some, Option.getD_some, Array.any_eq_true, Bool.and_eq_true] at h
    obtain ⟨x, hx, hb, he⟩ := h
    exact ⟨o, rfl, o.after[x], Array.getElem_mem hx, hb, Nat.eq_of_beq_eq_true he⟩

theorem when_of_ready {L : Array Bool} {k : Nat} (hc : Closed md ops L) (hr : k ∈ Region.ready md ops L) : When md ops k (fun j => L.getD j false) := by
  obtain ⟨h0, o, ho, hall⟩ := mem_ready.1 hr
  refine ⟨(getD_false_of_true h0).1, fun j hj => ?_, fun j hj => ?_, fun i j hw hi => ?_⟩
  · obtain ⟨oj, hoj, e, he, hb, rfl⟩ := waits_spec hj
    cases hx : L.getD j false with
    | false => exact hx
    | true =>
      have := hc.2 j oj hoj hx e he hb
      rw [(getD_false_of_true h0).1] at this
      cases this
  · obtain ⟨o', ho', e, he, hb, rfl⟩ := waits_spec hj
    obtain rfl : o' = o := Option.some.inj (ho'.symm.trans ho)
    exact hall e he hb
  · obtain ⟨oi, hoi, e, he, hb, rfl⟩ := waits_spec hw
    exact hc.2 i oi hoi hi e he hb

/-- What waits for what has not come up has not come up. -/
theorem When.un {k : Nat} {f : Nat → Bool} (h : When md ops k f) (i j : Nat) (hw : waits md ops i j = true) (hj : f j = false) : f i = false := by
  cases hi : f i with
  | false => rfl
  | true => rw [h.2.2.2 i j hw hi] at hj; cases hj

/-- f, and number k besides. -/
def add (f : Nat → Bool) (k : Nat) : Nat → Bool := fun j => Nat.beq j k || f j

theorem add_set {L : Array Bool} {k : Nat} (h : k < L.size) : (fun j => (L.setIfInBounds k true).getD j false) = add (fun j => L.getD j false) k := by
  funext j
  unfold add
  by_cases hkj : k = j
  · subst hkj; rw [getD_set_same h]; simp
  · rw [getD_set_ne' hkj]
    have : Nat.beq j k = false := by
      cases hb : Nat.beq j k with
      | false => rfl
      | true => exact absurd (Nat.eq_of_beq_eq_true hb).symm hkj
    rw [this]; rfl

/-- The walk in the order of the text, for the user: D is the class, f what has come up. -/
def lexD (P : Program) (md : Region.Mode) (ops : Array Oper) (D : (Nat → Bool) → World → Prop) (Q : Act → Prop) : List Oper → Nat → Act → Prop
  | [], _, a => Q a
  | o :: l, k, a => ∃ v, ((Region.wanted o (yielded ops a.tmps) = true ∧ ∀ f w, D f w → When md ops k f → Gives P o a w v (D (add f k))) ∨
      (Region.wanted o (yielded ops a.tmps) = false ∧ v = undef ∧ ∀ f w, D f w → When md ops k f → D (add f k) w)) ∧ lexD P md ops D Q l (k + 1) (a.put o.dst v)

theorem Gives.mono {o : Oper} {a : Act} {w : World} {v : Value} {R R' : World → Prop} (h : Gives P o a w v R) (hr : ∀ w', R w' → R' w') : Gives P o a w v R' := by
  unfold Gives at *
  generalize (execOp a.eval o).run P w = r at *
  cases r with
  | halt x w' => exact h
  | ok n w' =>
    cases n
    case value u => exact ⟨h.1, hr _ h.2⟩
    case skip => exact ⟨h.1, hr _ h.2⟩
    case enter f args => exact Calls.mono h fun e w'' ⟨he, hx⟩ => ⟨he, hr _ hx⟩
    all_goals exact h

theorem lexF_of_lexD {D : (Nat → Bool) → World → Prop} {Q : Act → Prop} {Q' : Array Bool → Act → Prop} (n : Nat) (hn : ops.size = n) (hQ : ∀ L a, (∀ j, j < n → L.getD j false = true) → Q a → Q' L a) :
    ∀ (l : List Oper) (k : Nat) (L : Array Bool) (a : Act), k + l.length = n → L.size = n → (∀ j, j < k → L.getD j false = true) → lexD P md ops D Q l k a →
      lexF P md ops (fun L w => Closed md ops L ∧ D (fun j => L.getD j false) w) Q' l k L a
  | [], k, L, a, hk, hs, hL, h => hQ L a (by intro j hj; exact hL j (by simp only [List.length_nil, Nat.add_zero] at hk; omega)) h
  | o :: l, k, L, a, hk, hs, hL, h => by
    obtain ⟨v, hv, hr⟩ := h
    have hkn : k < n := by rw [List.length_cons] at hk; omega
    refine ⟨v, ?_, lexF_of_lexD n hn hQ l (k + 1) _ _ (by rw [List.length_cons] at hk; omega) (by simpa using hs) (fun j hj => ?_) hr⟩
    · rcases hv with ⟨h1, h2⟩ | ⟨h1, h2, h3⟩
      · refine .inl ⟨h1, fun L' w hc hrd => (h2 _ w hc.2 (when_of_ready hc.1 hrd)).mono fun w' hw' => ⟨hc.1.set_ hrd, ?_⟩⟩
        rw [add_set (by rw [hc.1.1, hn]; exact hkn)]; exact hw'
      · refine .inr ⟨h1, h2, fun L' w hc hrd => ⟨hc.1.set_ hrd, ?_⟩⟩
        rw [add_set (by rw [hc.1.1, hn]; exact hkn)]; exact h3 _ w hc.2 (when_of_ready hc.1 hrd)
    · by_cases hjk : j = k
      · subst hjk; exact getD_set_same (by omega)
      · rw [getD_set_ne' (Ne.symm hjk)]; exact hL j (by omega)

/-- THE RULE. -/
theorem region {id : Nat} {Q : Exit → Act → World → Prop} {a : Act} {w : World} {l : List Oper} (D : (Nat → Bool) → World → Prop) (hm : P.follows .mixedOrders = true) (hB : Region.lexB .any l.toArray = true)
    (h0 : ∀ f, (∀ j, f j = false) → D f (w.drewN 1)) (h : lexD P .any l.toArray D (fun a' => ∀ f w', (∀ j, j < l.length → f j = true) → D f w' → Q .normal a' w') l 0 a) :
    (Code.region id l.toArray true).wp P Q a w := by
  simp only [Region.lexB, Bool.and_eq_true] at hB
  refine wp_region_any hm (wpAny_of_anyF (C := fun L w => Closed .any l.toArray L ∧ D (fun j => L.getD j false) w)
    (Q := fun L a' => ∀ w', D (fun j => L.getD j false) w' → Q .normal a' w') (fun L a w hc hq => hq w hc.2) _ _ _ _ ⟨Closed.start _ _, h0 _ (fun j => ?_)⟩ ?_)
  · simp only [Array.getD_eq_getD_getElem?, Array.getElem?_replicate]; split <;> rfl
  · have := anyF_lex (C := fun L w => Closed .any l.toArray L ∧ D (fun j => L.getD j false) w) (Q := fun L a' => ∀ w', D (fun j => L.getD j false) w' → Q .normal a' w')
      (P := P) hB.1 l 0 (Array.replicate l.toArray.size false) a (by simp) (by simpa using hB.2)
      (lexF_of_lexD l.length (by simp) (fun L a hL hq w' hd => hq _ w' hL hd) l 0 _ a (by simp) (by simp) (by omega) h)
    simpa using this

/-- The same, where the class names the world in which the region begins. -/
theorem regionW {id : Nat} {Q : Exit → Act → World → Prop} {a : Act} {w : World} {l : List Oper} (D : World → (Nat → Bool) → World → Prop) (hm : P.follows .mixedOrders = true) (hB : Region.lexB .any l.toArray = true)
    (h0 : ∀ f, (∀ j, f j = false) → D w f (w.drewN 1)) (h : lexD P .any l.toArray (D w) (fun a' => ∀ f w', (∀ j, j < l.length → f j = true) → D w f w' → Q .normal a' w') l 0 a) :
    (Code.region id l.toArray true).wp P Q a w := region (D w) hm hB h0 h

/-! The steps of the walk. -/
variable {D : (Nat → Bool) → World → Prop} {Q : Act → Prop} {l : List Oper} {o : Oper} {a : Act} {k : Nat}

/-- The guard says no. -/
theorem skip_ (hw : Region.wanted o (yielded ops a.tmps) = false) (hD : ∀ f w, D f w → D (add f k) w) (h : lexD P md ops D Q l (k + 1) (a.put o.dst undef)) : lexD P md ops D Q (o :: l) k a :=
  ⟨undef, .inr ⟨hw, rfl, fun f w hd _ => hD f w hd⟩, h⟩

/-- The operation yields v and leaves the world. -/
theorem val_ (v : Value) (hw : Region.wanted o (yielded ops a.tmps) = true) (hr : ∀ f w, D f w → When md ops k f → (execOp a.eval o).run P w = .ok (.value v) w) (hD : ∀ f w, D f w → D (add f k) w)
    (h : lexD P md ops D Q l (k + 1) (a.put o.dst v)) : lexD P md ops D Q (o :: l) k a :=
  ⟨v, .inl ⟨hw, fun f w hd hq => by unfold Gives; rw [hr f w hd hq]; exact ⟨rfl, hD f w hd⟩⟩, h⟩

/-- A store: it yields nothing and changes the world. -/
theorem store_ (g : World → World) (hw : Region.wanted o (yielded ops a.tmps) = true) (hr : ∀ f w, D f w → When md ops k f → (execOp a.eval o).run P w = .ok .skip (g w)) (hD : ∀ f w, D f w → When md ops k f → D (add f k) (g w))
    (h : lexD P md ops D Q l (k + 1) (a.put o.dst undef)) : lexD P md ops D Q (o :: l) k a :=
  ⟨undef, .inl ⟨hw, fun f w hd hq => by unfold Gives; rw [hr f w hd hq]; exact ⟨rfl, hD f w hd hq⟩⟩, h⟩

/-- A call of a Go function. -/
theorem call_ (v : Value) (n : FuncId) (args : Array Value) (hw : Region.wanted o (yielded ops a.tmps) = true) (hr : ∀ w, (execOp a.eval o).run P w = .ok (.enter n args) w)
    (hc : ∀ f w, D f w → When md ops k f → Calls P n args w fun e w'' => e = .returned v ∧ D (add f k) w'')
    (h : lexD P md ops D Q l (k + 1) (a.put o.dst v)) : lexD P md ops D Q (o :: l) k a :=
  ⟨v, .inl ⟨hw, fun f w hd hq => by unfold Gives; rw [hr w]; exact hc f w hd hq⟩, h⟩

theorem nil_ (h : Q a) : lexD P md ops D Q [] k a := h
end
end Go.Proofs.Ytclnffpfbngjoaa.Fx

end

section
/- Contracts of the checks of fractions and of functions that return fractions in lowest terms. -/
namespace Go.Proofs.Ytclnffpfbngjoaa
open Go.RowKit

/-- The error of a fraction. -/
def fracErr (n d : Int) : Int := if d < 1 ∨ Int.gcd n d ≠ 1 then 3 else if n < -1000000000 ∨ 1000000000 < n ∨ 1000000000 < d then 2 else 0

/-- Whether a fraction in lowest terms is small. -/
def smallB (a b : Int) : Bool := withinB (a / (Int.gcd a b : Int)) (-1000000000) 1000000000 && decide (b / (Int.gcd a b : Int) ≤ 1000000000)


end Go.Proofs.Ytclnffpfbngjoaa

end
