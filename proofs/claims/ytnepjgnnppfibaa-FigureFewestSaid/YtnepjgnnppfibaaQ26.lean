import Derived.Test.YtnepjgnnppfibaaQ22
import Derived.Test.YtnepjgnnppfibaaQ6
import Derived.Test.YtnepjgnnppfibaaQ23
import Derived.Test.YtnepjgnnppfibaaQ21
import Derived.Test.YtnepjgnnppfibaaQ19
import Derived.Test.YtnepjgnnppfibaaQ10
import Derived.Test.YtnepjgnnppfibaaQ7

section
/- Plain law of the fewest sessions: lists that fit never dig. -/
namespace Go.Proofs.Ytnepjgnnppfibaa
open Go Go.RowKit

/-- What sessions take of zone z. -/
def totL (l : List (List Int)) (z : Nat) : Int := sumN (fun q => (l.getD q []).getD z 0) l.length
/-- What the first k kinds take of zone z. -/
def usedK (c : List Int) (ws : List (List Int)) (k z : Nat) : Int := sumN (fun q => c.getD q 0 * (ws.getD q []).getD z 0) k
theorem usedK_succ (c : List Int) (ws : List (List Int)) (k z : Nat) : usedK c ws (k + 1) z = usedK c ws k z + c.getD k 0 * (ws.getD k []).getD z 0 := rfl
theorem totL_snoc (l : List (List Int)) (x : List Int) (z : Nat) : totL (l ++ [x]) z = totL l z + x.getD z 0 := by
  unfold totL
  rw [show (l ++ [x]).length = l.length + 1 by simp]
  show sumN _ l.length + ((l ++ [x]).getD l.length []).getD z 0 = _
  rw [show (l ++ [x]).getD l.length [] = x from getD_of (by rw [List.getElem?_append_right (Nat.le_refl _), Nat.sub_self]; rfl)]
  congr 1
  refine sumN_congr fun q hq => ?_
  rw [show (l ++ [x]).getD q [] = l.getD q [] by rw [List.getD_eq_getElem?_getD, List.getD_eq_getElem?_getD, List.getElem?_append_left hq]]
theorem sumN_more {f : Nat → Int} {k : Nat} : ∀ d, (∀ i, i < k + d → 0 ≤ f i) → sumN f k ≤ sumN f (k + d)
  | 0, _ => Int.le_refl _
  | d + 1, h => by
    have ih := sumN_more (f := f) (k := k) d (fun i hi => h i (by omega))
    have h1 := h (k + d) (by omega)
    show _ ≤ sumN f (k + d) + f (k + d)
    omega
theorem fits_at {h v : List Int} {ws : List (List Int)} {T : Int} {c : List Int} {i : Nat} (hf : fitsK h v ws T c = true) (hi : i < h.length) : withinB (leftK h ws c ws.length i - v.getD i 0) 0 T = true := by
  unfold fitsK at hf
  rw [List.all_eq_true] at hf
  exact hf i (List.mem_range.2 hi)
/-- Sessions that take no more than a list that fits never dig. -/
theorem few_sess {h v : List Int} {ws l : List (List Int)} {T : Int} {c : List Int} (h2 : twoErr h v = 0) (hl : l.length ≤ 100) (hw : ∀ s ∈ l, wearErr h.length s = 0) (hf : fitsK h v ws T c = true) (ht : ∀ z, z < h.length → totL l z ≤ usedK c ws ws.length z) : sessF h v l = (0, 0) := by
  have hp : ∀ z q, q < l.length → 0 ≤ (l.getD q []).getD z 0 := fun z q hq => by
    have h1 := hw (l.getD q []) (by rw [List.getD_eq_getElem?_getD, List.getElem?_eq_getElem hq]; exact List.getElem_mem hq)
    exact (getD_in (i := z) (lo := 0) (hi := 100000) (by omega) (wear_ok h1).2).1
  have key : ∀ z k, z < h.length → k ≤ l.length → v.getD z 0 ≤ leftF h l k z := fun z k hz hk => by
    have a1 := within_yes (fits_at hf hz)
    have a2 := ht z hz
    have a3 : sumN (fun q => (l.getD q []).getD z 0) k ≤ totL l z := by
      obtain ⟨d, hd⟩ : ∃ d, l.length = k + d := ⟨l.length - k, by omega⟩
      unfold totL
      rw [hd]
      exact sumN_more d fun i hi => hp z i (by omega)
    unfold leftK at a1
    unfold usedK at a2
    unfold leftF
    omega
  refine sess_none h2 (by omega) rfl (dig_no fun k hk => ?_) fun q hq => ?_
  · have := key k 0 hk (by omega)
    rwa [leftF_zero] at this
  · unfold sessBad
    rw [Bool.or_eq_false_iff]
    refine ⟨?_, dig_no fun k hk => ?_⟩
    · have h1 := hw (l.getD q []) (by rw [List.getD_eq_getElem?_getD, List.getElem?_eq_getElem hq]; exact List.getElem_mem hq)
      simp only [h1, ne_eq, not_true_eq_false, decide_false]
    · rw [tabL_getD _ hk]
      exact key k (q + 1) hk (by omega)

theorem tot_start {c : List Int} {ws : List (List Int)} (z : Nat) : totL [] z ≤ usedK c ws 0 z := Int.le_refl _
theorem tot_none {c rx : List Int} {ws l : List (List Int)} {k : Nat} (ht : ∀ z, totL l z ≤ usedK c ws k z) (z : Nat) : totL l z ≤ usedK c ws k z + ((0 : Nat) : Int) * rx.getD z 0 := by
  have := ht z
  rw [show ((0 : Nat) : Int) = 0 from rfl, Int.zero_mul]
  omega
theorem tot_next {c rx : List Int} {ws l : List (List Int)} {k p : Nat} {x : Int} (ht : ∀ z, totL l z ≤ usedK c ws k z + (p : Int) * rx.getD z 0) (hp : (p : Int) ≤ x) (hx : c.getD k 0 = x) (hr : ws.getD k [] = rx) (h0 : ∀ a ∈ rx, 0 ≤ a ∧ a ≤ 100000) (z : Nat) : totL l z ≤ usedK c ws (k + 1) z := by
  have h1 := ht z
  have h2 : 0 ≤ rx.getD z 0 := (getD_in (i := z) (lo := 0) (hi := 100000) (by omega) h0).1
  have h3 : (p : Int) * rx.getD z 0 ≤ x * rx.getD z 0 := Int.mul_le_mul_of_nonneg_right hp h2
  rw [usedK_succ, hx, hr]
  omega
theorem tot_more {c rx : List Int} {ws l : List (List Int)} {k p : Nat} (ht : ∀ z, totL l z ≤ usedK c ws k z + (p : Int) * rx.getD z 0) (z : Nat) : totL (l ++ [rx]) z ≤ usedK c ws k z + ((p + 1 : Nat) : Int) * rx.getD z 0 := by
  have h1 := ht z
  rw [totL_snoc, show ((p + 1 : Nat) : Int) = (p : Int) + 1 from rfl, Int.add_mul, Int.one_mul]
  omega

/-- One list more, as it lies: the literal and the append. -/
theorem rows_snoc {w1 : World} {base k : Nat} {o : Value} {ts : List TRow} (r : TRow) (h : w1.ownsRow base 22 1 o k (ts.map TRow.val)) (hb : base ≤ w1.heap.size) (hk : k ≤ 100000) :
    ∃ v' W2, (Builtin.append_ #[93, 93] 93 #[o, .slice (some ⟨w1.heap.size, 0, none⟩) 1 1]).run Try.prog (w1.alloc (.cells #[.slice r.A r.n r.c] 22)) = .ok v' W2 ∧ W2.ownsRow base 22 1 v' (k + 1) ((ts ++ [r]).map TRow.val) ∧ Below base w1 W2 := by
  obtain ⟨i0, hi0, hz0, hz1, hz2⟩ := info_parts info_ints
  obtain ⟨W, hW⟩ : ∃ W, W = w1.alloc (.cells #[.slice r.A r.n r.c] 22) := ⟨_, rfl⟩
  have hoW : W.ownsRow base 22 1 o k (ts.map TRow.val) := by rw [hW]; exact h.alloc _
  have hnb : Blk W w1.heap.size 22 #[.slice r.A r.n r.c] := by rw [hW]; exact Blk.new _ _ _
  have hsz : W.heap.size = w1.heap.size + 1 := by rw [hW]; simp
  have hbW : Below base w1 W := by rw [hW]; exact (Below.refl _ _).alloc hb _
  obtain ⟨v', W2, hrun, o2', hg2, hrow⟩ := run_append_any (P := Try.prog) W base 93 93 22 i0 _ 1 24 Try.underlying93 hi0 hz0 hz1 hz2 rfl (by omega) o k _ hoW W.heap.size (some ⟨w1.heap.size, 0, none⟩) 1 1 [.slice r.A r.n r.c] (Blk.reads hnb rfl) (by simp [Value.oneCell']) (by unfold maxLen; omega) (by omega) (by omega)
  rw [hW] at hrun
  refine ⟨v', W2, hrun, ?_, hbW.grown hg2 (by omega) (fun g hg => (own_lt hoW hg).1)⟩
  rw [List.map_append]
  exact o2'
end Go.Proofs.Ytnepjgnnppfibaa

end

section
/- Sessions: small lists; what the calls answer. -/
namespace Go.Proofs.Ytnepjgnnppfibaa
open Go Go.RowKit

theorem ints_same7 (A B : Option Addr) (ca cb n : Nat) (xs : List Int) (w : World) (N M : Nat) (hx : Reads w N 1 A n (xs.map (.int .i64))) (hy : Reads w M 1 B n (xs.map (.int .i64))) (h1 : n ≤ 9223372036854775807) :
    Calls Try.prog 47 #[.slice A n ca, .slice B n cb] w fun e w' => e = .returned (.bool true) ∧ Below w.heap.size w w' :=
  (ints_eqd A B ca cb n n xs xs true (by simp) w N M hx hy h1 h1).mono fun e w' ⟨he, q, hw⟩ => ⟨he, by rw [hw]; exact below_drewN (Below.refl _ _) q⟩
theorem ints_nil7 (w : World) : Calls Try.prog 47 #[.slice none 0 0, .slice none 0 0] w fun e w' => e = .returned (.bool true) ∧ Below w.heap.size w w' :=
  ints_same7 none none 0 0 0 [] w 0 0 Reads.none_ Reads.none_ (by omega)
section
variable {A : Option Addr} {n c : Nat} {B : Option Addr} {m d : Nat} {h : List Int} {t : List TRow} {E : Int} {w : World}
end
theorem copyT_any (A : Option Addr) (n c : Nat) (t : List TRow) (w : World) (hx : ReadsT w w.heap.size A n t) (hn : n ≤ 1000) (hrn : ∀ r ∈ t, r.n ≤ 1000) :
    Calls Try.prog 63 #[.slice A n c] w fun e w' => ∃ A' c' ts, e = .returned (.slice A' n c') ∧ Below w.heap.size w w' ∧ ts.map TRow.xs = t.map TRow.xs ∧ ReadsT w' w'.heap.size A' n ts :=
  (copylists_any A n c t w hx hn hrn).mono fun e w' ⟨hb, A', c', ts, he, hs, hr⟩ => ⟨A', c', ts, he, hb, hs, hr⟩
theorem copyJ_any (A : Option Addr) (n c : Nat) (l : List Int) (w : World) (hx : Reads w w.heap.size 1 A n (l.map (.int .i64))) (hn : n ≤ 1000000) :
    Calls Try.prog 34 #[.slice A n c] w fun e w' => ∃ A' c', e = .returned (.slice A' n c') ∧ Below w.heap.size w w' ∧ Reads w' w'.heap.size 1 A' n (l.map (.int .i64)) :=
  (copyints_any A n c _ l w hx (Nat.le_refl _) hn).mono fun e w' h => by
    obtain ⟨A', c', he, hb, hr, -⟩ := h
    exact ⟨A', c', he, hb, hr⟩

/-- At most six lists of at most 45 numbers, or a few more lists than the limit. -/
def listsB (m : Nat) (t : List TRow) : Bool := (decide (m ≤ 6) || (decide (100 < m) && decide (m ≤ 102))) && t.all (fun r => decide (r.n ≤ 45))
end Go.Proofs.Ytnepjgnnppfibaa

end

section
/- A class of worlds for drawn regions of calls: what is chosen, of any type, keeps its facts. -/
namespace Go.Proofs.Ytnepjgnnppfibaa
open Go Go.RowKit

def StbT {α : Type} (Pf : Nat → α → World → Prop) : Prop := ∀ i x (w w' : World), Below w.heap.size w w' → Pf i x w → Pf i x w'
structure Kt {α : Type} (Pf : Nat → α → World → Prop) (W : World) (g : Nat → Option α) (w' : World) : Prop where
  bel : Below W.heap.size W w'
  has : ∀ i x, g i = some x → Pf i x w'
section
variable {α : Type} {Pf : Nat → α → World → Prop} {W w' w'' : World} {g : Nat → Option α} {f : Nat → Bool}
theorem Kt.start : Kt Pf W (fun _ => none) (W.drewN 1) := ⟨below_drewN (Below.refl _ _) 1, fun _ _ h => nomatch h⟩
theorem Kt.call (h : Kt Pf W g w') (hs : StbT Pf) (hb : Below w'.heap.size w' w'') : Kt Pf W g w'' := ⟨step_below hb h.bel, fun i x hx => hs i x _ _ hb (h.has i x hx)⟩
theorem Kt.choose (h : Kt Pf W g w') (hs : StbT Pf) (hb : Below w'.heap.size w' w'') (i : Nat) (x : α) (hx : Pf i x w'') : Kt Pf W (Fx.upd g i x) w'' := ⟨step_below hb h.bel, fun j y hy => by
  by_cases e : j = i
  · subst e
    rw [Fx.upd_same] at hy
    cases hy
    exact hx
  · rw [upd_ne e] at hy
    exact hs j y _ _ hb (h.has j y hy)⟩
end
/-- Three lists. -/
abbrev Pick3 := Pick × Pick × Pick
end Go.Proofs.Ytnepjgnnppfibaa

end
