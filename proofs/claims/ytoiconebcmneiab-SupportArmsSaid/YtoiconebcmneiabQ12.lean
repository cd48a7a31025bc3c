import Derived.Test.YtoiconebcmneiabQ9
import Derived.Test.YtoiconebcmneiabQ11
import Derived.Test.YtoiconebcmneiabQ4

section
/- The plain law of sums below a thing: all that lies below a rocker lies below the top. -/
namespace Go.Proofs.Ytoiconebcmneiab
open Go.RowKit

theorem pts_mono {l : List Rk} : ∀ (f : Nat) (s : ByteArray) (ps : List ByteArray), pts l f s = some ps → pts l (f + 1) s = some ps := by
  intro f
  induction f with
  | zero =>
    intro s ps hp
    unfold pts at hp
    cases hi : idxOf l s with
    | none => rw [hi] at hp; unfold pts; rw [hi]; exact hp
    | some i => rw [hi] at hp; cases hp
  | succ f ih =>
    intro s ps hp
    unfold pts at hp
    cases hi : idxOf l s with
    | none => rw [hi] at hp; unfold pts; rw [hi]; exact hp
    | some i =>
      rw [hi] at hp
      simp only at hp
      cases hr : l[i]? with
      | none => rw [hr] at hp; cases hp
      | some r =>
        rw [hr] at hp
        simp only at hp
        cases ha : pts l f r.left with
        | none => rw [ha] at hp; cases hp
        | some a =>
          cases hb : pts l f r.right with
          | none => rw [ha, hb] at hp; cases hp
          | some b =>
            rw [ha, hb] at hp
            unfold pts
            rw [hi]
            simp only [hr]
            rw [ih _ _ ha, ih _ _ hb]
            exact hp

/-- The points below a thing. -/
def below_ (l : List Rk) (s : ByteArray) : List ByteArray := (pts l l.length s).getD []
theorem below_pts {l : List Rk} (h : openErr l = 0) (s : ByteArray) : pts l l.length s = some (below_ l s) := by
  unfold below_
  cases hp : pts l l.length s with
  | none => exact absurd hp (pts_ok h s)
  | some ps => rfl

theorem idx_name {l : List Rk} (h : err1 [] l = 0) {i : Nat} {r : Rk} (hr : l[i]? = some r) : idxOf l r.name = some i := by
  have hall : ∀ (m seen : List Rk), err1 seen m = 0 → ∀ (j : Nat) (x : Rk), m[j]? = some x → idxOf (seen ++ m) x.name = some (seen.length + j) := by
    intro m
    induction m with
    | nil => intro seen _ j x hx; simp at hx
    | cons y m ih =>
      intro seen he j x hx
      unfold err1 at he
      split at he
      · rename_i h0
        cases j with
        | zero =>
          simp at hx
          subst hx
          have hno : idxOf seen y.name = none := by
            cases hi : idxOf seen y.name with
            | none => rfl
            | some q =>
              have : (idxM seen y.name).isSome = true := by unfold idxM; rw [hi]; rfl
              rw [this] at h0
              unfold rkErr at h0
              cases hn : nameB y.name <;> simp [hn] at h0
          have hy : idxOf (y :: m) y.name = some 0 := by unfold idxOf; rw [List.findIdx?_cons]; simp
          rw [idxOf_append, hno, hy]
          simp
        | succ j =>
          have := ih (seen ++ [y]) he j x (by simpa using hx)
          rw [List.append_assoc] at this
          rw [show y :: m = [y] ++ m from rfl, this, List.length_append]
          simp; omega
      · rename_i h0; exact absurd he h0
  have := hall l [] h i r hr
  simpa using this

/-- What lies below a thing lies below its bearer. -/
theorem below_up {l : List Rk} (h : openErr l = 0) {s t : ByteArray} (hu : upOf l s = some t) : ∀ x ∈ below_ l s, x ∈ below_ l t := by
  obtain ⟨h0, h1, h2, hn, h4, h5⟩ := open_zero h
  unfold upOf at hu
  cases hb : bearerOf l s with
  | none => rw [hb] at hu; cases hu
  | some i =>
    obtain ⟨r, hr, hs⟩ := bearer_get hb
    rw [hb] at hu
    simp only [Option.bind_some, hr, Option.map_some, Option.some.injEq] at hu
    subst hu
    have hidx := idx_name h2 hr
    have hp := below_pts h r.name
    obtain ⟨f, hf⟩ : ∃ f, l.length = f + 1 := ⟨l.length - 1, by omega⟩
    intro x hx
    have hps := below_pts h s
    rw [hf] at hp hps
    unfold pts at hp
    rw [hidx] at hp
    simp only [hr] at hp
    cases ha : pts l f r.left with
    | none => rw [ha] at hp; cases hp
    | some a =>
      cases hbb : pts l f r.right with
      | none => rw [ha, hbb] at hp; cases hp
      | some b =>
        rw [ha, hbb] at hp
        have e := Option.some.inj hp
        rw [← e]
        rcases hs with e2 | e2
        · rw [← e2, pts_mono _ _ _ ha] at hps
          rw [← e2, ← Option.some.inj hps] at hx
          exact List.mem_append_left _ hx
        · rw [← e2, pts_mono _ _ _ hbb] at hps
          rw [← e2, ← Option.some.inj hps] at hx
          exact List.mem_append_right _ hx

theorem below_top {l : List Rk} (h : openErr l = 0) : ∀ (f : Nat) (i : Nat) (r : Rk), l[i]? = some r → climbs l f r.name = false → ∀ x ∈ below_ l r.name, x ∈ below_ l (topName l)
  | f, i, r, hr, hc => by
    cases hb : bearerOf l r.name with
    | none =>
      have hT : hasB (borneAll l) r.name = false := by
        have := bearer_mem (l := l) (s := r.name)
        rw [hb] at this
        cases hh : hasB (borneAll l) r.name with
        | false => rfl
        | true => rw [hh] at this; cases this
      rw [top_name h hr hT]
      exact fun x hx => hx
    | some j =>
      obtain ⟨r', hr', hs⟩ := bearer_get hb
      have hu : upOf l r.name = some r'.name := by unfold upOf; rw [hb]; simp [hr']
      cases f with
      | zero => simp [climbs, hb] at hc
      | succ f =>
        have ih := below_top h f j r' hr' (by simpa [climbs, hb, hr'] using hc)
        exact fun x hx => ih x (below_up h hu x hx)

theorem below_side {l : List Rk} (h : openErr l = 0) {r : Rk} {i : Nat} (hr : l[i]? = some r) {s : ByteArray} (hs : r.left = s ∨ r.right = s) : ∀ x ∈ below_ l s, x ∈ below_ l (topName l) := by
  obtain ⟨h0, h1, h2, hn, h4, h5⟩ := open_zero h
  intro x hx
  have hc : climbs l (l.length + 1) r.name = false := by simpa using List.any_eq_false.1 h4 r (List.mem_of_getElem? hr)
  exact below_top h _ i r hr hc x (below_up h (up_of_child hn hr hs) x hx)

/-- The number of a point. -/
def posOf (ps : List ByteArray) (s : ByteArray) : Option Nat := ps.findIdx? fun x => decide (x = s)
theorem posOf_some {ps : List ByteArray} {s : ByteArray} {i : Nat} (h : posOf ps s = some i) : ps[i]? = some s ∧ ∀ j, j < i → ∀ x, ps[j]? = some x → x ≠ s := by
  unfold posOf at h
  obtain ⟨hi, hp, hn⟩ := List.findIdx?_eq_some_iff_getElem.1 h
  refine ⟨?_, fun j hj x hx e => ?_⟩
  · rw [List.getElem?_eq_getElem hi, of_decide_eq_true hp]
  · obtain ⟨g1, g2⟩ := List.getElem?_eq_some_iff.1 hx
    have := hn j hj
    rw [g2] at this
    exact absurd e (of_decide_eq_false (by simpa using this))
theorem posOf_mem {ps : List ByteArray} {s : ByteArray} (h : s ∈ ps) : ∃ i, posOf ps s = some i := by
  cases hp : posOf ps s with
  | some i => exact ⟨i, rfl⟩
  | none =>
    unfold posOf at hp
    have := List.findIdx?_eq_none_iff.1 hp s h
    simp at this
/-- What a point carries. -/
def loadOf (ps : List ByteArray) (xs : List Int) (s : ByteArray) : Int := match posOf ps s with | some i => xs.getD i 0 | none => 0
/-- What things carry together. -/
def sumF (g : ByteArray → Int) (qs : List ByteArray) : Int := qs.foldl (fun t s => t + g s) 0
theorem sumF_snoc (g : ByteArray → Int) (qs : List ByteArray) (s : ByteArray) : sumF g (qs ++ [s]) = sumF g qs + g s := by
  unfold sumF; rw [List.foldl_append]; rfl
theorem sumF_acc {g : ByteArray → Int} {b : Int} : ∀ (qs : List ByteArray) (t : Int), (∀ s ∈ qs, 0 ≤ g s ∧ g s ≤ b) → t ≤ qs.foldl (fun t s => t + g s) t ∧ qs.foldl (fun t s => t + g s) t ≤ t + b * qs.length
  | [], t, _ => by simp
  | s :: qs, t, h => by
    have h1 := sumF_acc qs (t + g s) fun x hx => h x (by simp [hx])
    have h2 := h s (by simp)
    have e : b * (((s :: qs).length : Nat) : Int) = b * qs.length + b := by simp [Int.mul_add]
    rw [List.foldl_cons, e]
    omega
theorem sumF_bound {g : ByteArray → Int} {b : Int} (qs : List ByteArray) (h : ∀ s ∈ qs, 0 ≤ g s ∧ g s ≤ b) : 0 ≤ sumF g qs ∧ sumF g qs ≤ b * qs.length := by
  have := sumF_acc qs 0 h
  unfold sumF
  omega
def underI (l : List Rk) (ps : List ByteArray) (xs : List Int) (s : ByteArray) : Int := sumF (loadOf ps xs) (below_ l s)
theorem loadOf_bound {ps : List ByteArray} {xs : List Int} {b : Int} (hb : 0 ≤ b) (h : ∀ z ∈ xs, 0 ≤ z ∧ z ≤ b) (s : ByteArray) : 0 ≤ loadOf ps xs s ∧ loadOf ps xs s ≤ b := by
  unfold loadOf
  cases posOf ps s with
  | none => simp; exact hb
  | some i =>
    simp only
    rw [List.getD]
    cases hx : xs[i]? with
    | none => simp; exact hb
    | some z => exact h z (List.mem_of_getElem? hx)
theorem below_len {l : List Rk} (h : openErr l = 0) (s : ByteArray) : (below_ l s).length ≤ 2 ^ l.length := (pts_len _ _ _ (below_pts h s)).2

end Go.Proofs.Ytoiconebcmneiab

end

section
/- Contracts of the search of the best pair of gears. -/
namespace Go.Proofs.Ytoiconebcmneiab
open Go.RowKit

def cmpI (a b : Int) : Int := if a < b then -1 else if b < a then 1 else 0

theorem isnan_any (a : Int) (w : World) : Calls Try.prog 110 #[.int .i64 a] w fun e w' => e = .returned (.bool false) ∧ w = w' := by
  have h : (a != a) = false := by simp
  go_enter Try.func110, Try.ntmps110
  go_wp2
  go_ret
  exact ⟨by simp, rfl⟩

theorem cmp_any (a b : Int) (w : World) : Calls Try.prog 103 #[.int .i64 a, .int .i64 b] w fun e w' => e = .returned (.int .i64 (cmpI a b)) ∧ w = w' := by
  by_cases h1 : a < b
  · go_enter Try.func103, Try.ntmps103
    go_wp2_with (go_at_call 110; refine (isnan_any _ _).mono ?_; rintro e w' ⟨rfl, rfl⟩)
    go_ret
    exact ⟨ret_int (by unfold cmpI; rw [if_pos h1]), rfl⟩
  · by_cases h2 : b < a
    · go_enter Try.func103, Try.ntmps103
      go_wp2_with (go_at_call 110; refine (isnan_any _ _).mono ?_; rintro e w' ⟨rfl, rfl⟩)
      go_ret
      exact ⟨ret_int (by unfold cmpI; rw [if_neg (by omega), if_pos h2]), rfl⟩
    · go_enter Try.func103, Try.ntmps103
      go_wp2_with (go_at_call 110; refine (isnan_any _ _).mono ?_; rintro e w' ⟨rfl, rfl⟩)
      go_ret
      exact ⟨ret_int (by unfold cmpI; rw [if_neg (by omega), if_neg (by omega)]), rfl⟩

theorem mul_bound {a b A B : Int} (h1 : 0 ≤ a) (h2 : a ≤ A) (h3 : 0 ≤ b) (h4 : b ≤ B) : 0 ≤ a * b ∧ a * b ≤ A * B :=
  ⟨Int.mul_nonneg h1 h3, Int.mul_le_mul h2 h4 h3 (Int.le_trans h1 h2)⟩

theorem ret_int2 {k k' : IntKind} {a b c d : Int} (h : a = b) (h' : c = d) : Ending.returned (.tuple #[.int k a, .int k' c]) = .returned (.tuple #[.int k b, .int k' d]) := by rw [h, h']

theorem far_any (rn rd gd gv : Int) (w : World) (h1 : -4000000000000000000 ≤ rn * gv) (h2 : rn * gv ≤ 4000000000000000000) (h3 : -4000000000000000000 ≤ gd * rd) (h4 : gd * rd ≤ 4000000000000000000) :
    Calls Try.prog 109 #[.agg #[.int .i64 rn, .int .i64 rd], .agg #[.int .i64 gd, .int .i64 gv]] w fun e w' =>
      e = .returned (.tuple #[.int .i64 ((rn * gv - gd * rd).natAbs : Int), .int .i64 gv]) ∧ Below w.heap.size w w' ∧ w'.heap.size = w.heap.size + 2 := by
  go_enter Try.func109, Try.ntmps109
  go_wp2
  go_region
  all_goals go_wp2
  all_goals go_ret2
  all_goals exact ⟨ret_int2 (by omega) rfl, (((Below.refl _ _).alloc (Nat.le_refl _) _).alloc (by simp) _).drew, by simp⟩

/-- By how much a pair misses a ratio. -/
def offF (rn rd gd gv : Int) : Int := ((rn * gv - gd * rd).natAbs : Int)
def cmpF (rn rd : Int) (g h : Int × Int) : Int := cmpI (offF rn rd g.1 g.2 * h.2) (offF rn rd h.1 h.2 * g.2)

theorem off_bound {rn rd gd gv : Int} (h1 : 0 ≤ rn) (h2 : rn ≤ 1000000000) (h3 : 0 ≤ rd) (h4 : rd ≤ 1000000000) (a1 : 0 ≤ gd) (a2 : gd ≤ 500) (b1 : 0 ≤ gv) (b2 : gv ≤ 500) :
    0 ≤ offF rn rd gd gv ∧ offF rn rd gd gv ≤ 500000000000 := by
  have m1 := mul_bound h1 h2 b1 b2
  have m2 := mul_bound a1 a2 h3 h4
  unfold offF
  omega

theorem compare_any (rn rd gd gv hd hv : Int) (w : World) (h1 : 0 ≤ rn) (h2 : rn ≤ 1000000000) (h3 : 0 ≤ rd) (h4 : rd ≤ 1000000000)
    (a1 : 0 ≤ gd) (a2 : gd ≤ 500) (b1 : 0 ≤ gv) (b2 : gv ≤ 500) (c1 : 0 ≤ hd) (c2 : hd ≤ 500) (d1 : 0 ≤ hv) (d2 : hv ≤ 500) :
    Calls Try.prog 102 #[.agg #[.int .i64 rn, .int .i64 rd], .agg #[.int .i64 gd, .int .i64 gv], .agg #[.int .i64 hd, .int .i64 hv]] w fun e w' =>
      e = .returned (.int .i64 (cmpF rn rd (gd, gv) (hd, hv))) ∧ Below w.heap.size w w' ∧ w'.heap.size = w.heap.size + 7 := by
  have m1 := mul_bound h1 h2 b1 b2
  have m2 := mul_bound a1 a2 h3 h4
  have m3 := mul_bound h1 h2 d1 d2
  have m4 := mul_bound c1 c2 h3 h4
  have o1 := off_bound h1 h2 h3 h4 a1 a2 b1 b2
  have o2 := off_bound h1 h2 h3 h4 c1 c2 d1 d2
  have p1 := mul_bound o1.1 o1.2 d1 d2
  have p2 := mul_bound o2.1 o2.2 b1 b2
  unfold offF at p1 p2
  go_enter Try.func102, Try.ntmps102
  go_wp2_with fail
  refine (far_any _ _ _ _ _ (by omega) (by omega) (by omega) (by omega)).mono ?_
  rintro e w1 ⟨rfl, hb1, hs1⟩
  simp only [World.size_alloc] at hb1 hs1
  have k0 : w1.cell? ⟨w.heap.size, 0, none⟩ = some (.int .i64 rn) := by rw [hb1.cell (by simp; omega)]; go_simp
  have k1 : w1.cell? ⟨w.heap.size, 1, none⟩ = some (.int .i64 rd) := by rw [hb1.cell (by simp; omega)]; go_simp
  have k2 : w1.cell? ⟨w.heap.size + 2, 0, none⟩ = some (.int .i64 hd) := by rw [hb1.cell (by simp)]; go_simp
  have k3 : w1.cell? ⟨w.heap.size + 2, 1, none⟩ = some (.int .i64 hv) := by rw [hb1.cell (by simp)]; go_simp
  have HS := Lib.hid hs1
  clear hs1
  go_wp2_with fail
  refine (far_any _ _ _ _ _ (by omega) (by omega) (by omega) (by omega)).mono ?_
  rintro e w2 ⟨rfl, hb2, hs2⟩
  have HS2 := Lib.hid hs2
  clear hs2
  go_wp2_with (go_at_call 103; refine (cmp_any _ _ _).mono ?_; rintro e w' ⟨rfl, rfl⟩)
  go_ret
  refine ⟨rfl, ?_, by rw [HS2.out, HS.out]⟩
  have q1 : Below w.heap.size w w1 := ((((Below.refl _ _).alloc (Nat.le_refl _) _).alloc (by simp) _).alloc (by simp; omega) _).trans (hb1.mono (by omega))
  exact q1.trans (hb2.mono (by have := q1.size; omega))

def orF (x y z : Int) : Int := if x ≠ 0 then x else if y ≠ 0 then y else z

theorem or_any (x y z : Int) (A : Option Addr) (c N : Nat) (w : World) (h : Reads w N 1 A 3 [.int .i64 x, .int .i64 y, .int .i64 z]) :
    Calls Try.prog 101 #[.slice A 3 c] w fun e w' => e = .returned (.int .i64 (orF x y z)) ∧ w = w' := by
  obtain ⟨b, o, u, rfl, _, hu, c0⟩ := h.at_ (k := 0) (by omega)
  obtain ⟨b', o', u1, e1, _, hu1, c1⟩ := h.at_ (k := 1) (by omega)
  obtain ⟨b'', o'', u2, e2, _, hu2, c2⟩ := h.at_ (k := 2) (by omega)
  simp only [Option.some.injEq, Addr.mk.injEq, and_true] at e1 e2
  obtain ⟨rfl, rfl⟩ := e1
  obtain ⟨rfl, rfl⟩ := e2
  simp at hu hu1 hu2
  subst hu hu1 hu2
  simp only [Nat.add_zero] at c0
  clear h
  go_enter Try.func101, Try.ntmps101
  go_wp2
  refine wp_loop_rounds 4 ?_
  repeat any_goals (rw [rounds_succ]; go_wp2)
  all_goals go_ret
  · have h : (x != 0) = true := by assumption
    exact ⟨ret_int (show x = _ by unfold orF; rw [if_pos (by simpa using h)]), rfl⟩
  · have h : (x != 0) = false := by assumption
    have h2 : (y != 0) = true := by assumption
    exact ⟨ret_int (show y = _ by unfold orF; rw [if_neg (by simpa using h), if_pos (by simpa using h2)]), rfl⟩
  · have h : (x != 0) = false := by assumption
    have h2 : (y != 0) = false := by assumption
    exact ⟨ret_int (show z = _ by unfold orF; rw [if_neg (by simpa using h), if_neg (by simpa using h2)]), rfl⟩
  · have h : (x != 0) = false := by assumption
    have h2 : (y != 0) = false := by assumption
    have h3 : (z != 0) = false := by assumption
    exact ⟨ret_int (show 0 = _ by unfold orF; rw [if_neg (by simpa using h), if_neg (by simpa using h2)]; have := h3; simp at this; omega), rfl⟩

/-- Is a pair better than another one? -/
def betterB (rn rd : Int) (g h : Int × Int) : Bool :=
  decide (orF (cmpF rn rd g h) (cmpI (g.1 + g.2) (h.1 + h.2)) (cmpI g.1 h.1) < 0)
def stepF (rn rd : Int) (o g : Int × Int) : Int × Int := if betterB rn rd g o then g else o
/-- The best pair so far: rows of drivers. -/
def rowF (rn rd : Int) (lo : Int) (m : Nat) (d : Int) (o : Int × Int) : Int × Int := (List.range m).foldl (fun o (j : Nat) => stepF rn rd o (d, lo + (j : Int))) o
def bestF (rn rd : Int) (lo : Int) (m k : Nat) : Int × Int := (List.range k).foldl (fun o (i : Nat) => rowF rn rd lo m (lo + (i : Int)) o) (lo, lo)
theorem rowF_succ (rn rd lo : Int) (m : Nat) (d : Int) (o : Int × Int) : rowF rn rd lo (m + 1) d o = stepF rn rd (rowF rn rd lo m d o) (d, lo + (m : Int)) := by
  unfold rowF; rw [List.range_succ, List.foldl_append]; rfl
theorem bestF_succ (rn rd lo : Int) (m k : Nat) : bestF rn rd lo m (k + 1) = rowF rn rd lo m (lo + (k : Int)) (bestF rn rd lo m k) := by
  unfold bestF; rw [List.range_succ, List.foldl_append]; rfl

theorem foldl_teeth {P : Int × Int → Prop} {f : Int × Int → Nat → Int × Int} (h : ∀ o j, P o → P (f o j)) : ∀ (l : List Nat) (o : Int × Int), P o → P (l.foldl f o)
  | [], _, ho => ho
  | j :: l, o, ho => foldl_teeth h l _ (h o j ho)

set_option maxRecDepth 100000 in
set_option maxHeartbeats 1000000 in
theorem best_any (rn rd lo hi : Int) (w : World) (h1' : 0 ≤ rn) (h2' : rn ≤ 1000000000) (h3' : 0 ≤ rd) (h4' : rd ≤ 1000000000) (a1 : 1 ≤ lo) (a2 : lo ≤ hi) (a3 : hi ≤ 500) :
    Calls Try.prog 83 #[.agg #[.int .i64 rn, .int .i64 rd], .int .i64 lo, .int .i64 hi] w fun e w' =>
      e = .returned (.agg #[.int .i64 (bestF rn rd lo (hi - lo + 1).toNat (hi - lo + 1).toNat).1, .int .i64 (bestF rn rd lo (hi - lo + 1).toNat (hi - lo + 1).toNat).2]) ∧ Below w.heap.size w w' := by
  obtain ⟨m, hm⟩ : ∃ m : Nat, hi = lo + m - 1 := ⟨(hi - lo + 1).toNat, by omega⟩
  have hmm : (hi - lo + 1).toNat = m := by omega
  rw [hmm]
  clear hmm
  have hm1 : 1 ≤ (m : Int) := by omega
  have hm2 : lo + m ≤ 501 := by omega
  subst hm
  clear a2 a3
  go_enter Try.func83, Try.ntmps83
  go_wp2
  go_loopw [8] (fun i wr => ∃ k : Nat, k ≤ m ∧ i = .int .i64 (lo + k) ∧ Below w.heap.size w wr ∧ w.heap.size + 3 ≤ wr.heap.size ∧ Blk wr w.heap.size 53 #[.int .i64 rn, .int .i64 rd] ∧ Blk wr (w.heap.size + 1) 74 #[.int .i64 0, .int .i64 0] ∧
      ∃ o : Int × Int, o = bestF rn rd lo m k ∧ 1 ≤ o.1 ∧ o.1 ≤ 500 ∧ 1 ≤ o.2 ∧ o.2 ≤ 500 ∧ Blk wr (w.heap.size + 1 + 1) 74 #[.int .i64 o.1, .int .i64 o.2]) (fun i _ => (lo + m - intOf i).toNat)
  case atStart =>
    refine ⟨0, by omega, by simp, ?_, by simp, ?_, ?_, (lo, lo), rfl, a1, by simp; omega, a1, by simp; omega, ?_⟩
    · repeat' (first | exact Below.refl _ _ | assumption | refine below_drewN ?_ _ | refine Below.drew ?_ | refine Below.alloc ?_ (by first | omega | (simp; done) | (simp; omega)) _ | refine Below.setCell ?_ (by first | omega | (simp; done) | (simp; omega)) _)
    · repeat' (first | assumption | exact Blk.at_ _ (by first | rfl | (simp; done) | (simp; omega)) _ _ | refine Blk.drewN ?_ _ | refine Blk.drew ?_ | refine Blk.alloc ?_ _ | refine Blk.far ?_ (by first | omega | (simp; done) | (simp; omega)) _)
    · repeat' (first | assumption | exact Blk.at_ _ (by first | rfl | (simp; done) | (simp; omega)) _ _ | refine Blk.drewN ?_ _ | refine Blk.drew ?_ | refine Blk.alloc ?_ _ | refine Blk.far ?_ (by first | omega | (simp; done) | (simp; omega)) _)
    · repeat' (first | assumption | exact Blk.at_ _ (by first | rfl | (simp; done) | (simp; omega)) _ _ | refine Blk.drewN ?_ _ | refine Blk.drew ?_ | refine Blk.alloc ?_ _ | refine Blk.far ?_ (by first | omega | (simp; done) | (simp; omega)) _)
  case round =>
    obtain ⟨k, hk, rfl, hbel, hsz, hb0, hb1, o, ho, o1, o2, o3, o4, hb2⟩ := hrel
    have HO := Lib.hid ho
    clear ho
    by_cases hlt : k < m
    · go_wp2
      obtain ⟨wo, hwo⟩ : ∃ wo : World, wo = wr := ⟨_, rfl⟩
      subst hwo
      go_loopw [9] (fun i wr => ∃ j : Nat, j ≤ m ∧ i = .int .i64 (lo + j) ∧ Below w.heap.size w wr ∧ w.heap.size + 3 ≤ wr.heap.size ∧ Blk wr w.heap.size 53 #[.int .i64 rn, .int .i64 rd] ∧ Blk wr (w.heap.size + 1) 74 #[.int .i64 0, .int .i64 0] ∧
          ∃ q : Int × Int, q = rowF rn rd lo j (lo + k) o ∧ 1 ≤ q.1 ∧ q.1 ≤ 500 ∧ 1 ≤ q.2 ∧ q.2 ≤ 500 ∧ Blk wr (w.heap.size + 1 + 1) 74 #[.int .i64 q.1, .int .i64 q.2]) (fun i _ => (lo + m - intOf i).toNat)
      case atStart => exact ⟨0, by omega, by simp, hbel, hsz, hb0, hb1, o, rfl, o1, o2, o3, o4, hb2⟩
      case round =>
        obtain ⟨j, hj, rfl, hbel2, hsz2, hc0, hc1, q, hq, q1, q2, q3, q4, hc2⟩ := hrel
        have HQ := Lib.hid hq
        clear hq
        by_cases hlt2 : j < m
        · go_wp2
          have e1 : IntKind.i64.wrap (lo + (k : Int) + (lo + (j : Int))) = lo + (k : Int) + (lo + (j : Int)) := IntWalk.i64_in _ ⟨by omega, by omega⟩
          have e2 : IntKind.i64.wrap (q.1 + q.2) = q.1 + q.2 := IntWalk.i64_in _ ⟨by omega, by omega⟩
          cases hbt : betterB rn rd (lo + k, lo + j) q
          all_goals
            have HB := Lib.hid hbt
            clear hbt
            refine Fx.regionW (fun _ f w' => Below w.heap.size w w' ∧ w'.heap.size = wr.heap.size + 1 + (if f 3 then 7 else 0) + (if f 17 then 1 else 0) ∧ Blk w' w.heap.size 53 #[.int .i64 rn, .int .i64 rd] ∧ Blk w' (w.heap.size + 1) 74 #[.int .i64 0, .int .i64 0] ∧ Blk w' (w.heap.size + 1 + 1) 74 #[.int .i64 q.1, .int .i64 q.2] ∧ Blk w' wr.heap.size 74 #[.int .i64 (lo + k), .int .i64 (lo + j)] ∧ (f 17 = true → Blk w' (wr.heap.size + 8) 3 #[.int .i64 (cmpF rn rd (lo + k, lo + j) q), .int .i64 (cmpI (lo + k + (lo + j)) (q.1 + q.2)), .int .i64 (cmpI (lo + k) q.1)])) (by kernel_rfl) (by kernel_rfl) ?_ ?_
            · intro f hf0
              refine ⟨?_, by rw [hf0 3, hf0 17]; simp, ?_, ?_, ?_, ?_, fun h => by rw [hf0 17] at h; cases h⟩
              · repeat' (first | exact Below.refl _ _ | assumption | refine below_drewN ?_ _ | refine Below.drew ?_ | refine Below.alloc ?_ (by first | omega | (simp; done) | (simp; omega)) _ | refine Below.setCell ?_ (by first | omega | (simp; done) | (simp; omega)) _)
              · repeat' (first | assumption | exact Blk.at_ _ (by first | rfl | (simp; done) | (simp; omega)) _ _ | refine Blk.drewN ?_ _ | refine Blk.drew ?_ | refine Blk.alloc ?_ _ | refine Blk.far ?_ (by first | omega | (simp; done) | (simp; omega)) _)
              · repeat' (first | assumption | exact Blk.at_ _ (by first | rfl | (simp; done) | (simp; omega)) _ _ | refine Blk.drewN ?_ _ | refine Blk.drew ?_ | refine Blk.alloc ?_ _ | refine Blk.far ?_ (by first | omega | (simp; done) | (simp; omega)) _)
              · repeat' (first | assumption | exact Blk.at_ _ (by first | rfl | (simp; done) | (simp; omega)) _ _ | refine Blk.drewN ?_ _ | refine Blk.drew ?_ | refine Blk.alloc ?_ _ | refine Blk.far ?_ (by first | omega | (simp; done) | (simp; omega)) _)
              · repeat' (first | assumption | exact Blk.at_ _ (by first | rfl | (simp; done) | (simp; omega)) _ _ | refine Blk.drewN ?_ _ | refine Blk.drew ?_ | refine Blk.alloc ?_ _ | refine Blk.far ?_ (by first | omega | (simp; done) | (simp; omega)) _)
            repeat (first
              | (refine Fx.skip_ (by rfl) (fun f w h => h) ?_; simp only [Act.put, List.setIfInBounds_toArray, List.set_cons_zero, List.set_cons_succ])
              | (refine Fx.val_ ?_ (by rfl) ?_ (fun f w h => h) ?_
                 rotate_left
                 · intro f w' hD hk
                   obtain ⟨hb, hz, h1, h2, h3, h4, h5⟩ := id hD
                   have c0 : w'.cell? ⟨w.heap.size, 0, none⟩ = some (.int .i64 rn) := h1.cell 0
                   have c1 : w'.cell? ⟨w.heap.size, 1, none⟩ = some (.int .i64 rd) := h1.cell 1
                   have c2 : w'.cell? ⟨w.heap.size + 1 + 1, 0, none⟩ = some (.int .i64 q.1) := h3.cell 0
                   have c3 : w'.cell? ⟨w.heap.size + 1 + 1, 1, none⟩ = some (.int .i64 q.2) := h3.cell 1
                   have c4 : w'.cell? ⟨wr.heap.size, 0, none⟩ = some (.int .i64 (lo + k)) := h4.cell 0
                   have c5 : w'.cell? ⟨wr.heap.size, 1, none⟩ = some (.int .i64 (lo + j)) := h4.cell 1
                   clear hk hD hb hz h1 h2 h3 h4 h5
                   go_simp
                   try rfl
                 simp only [Act.put, List.setIfInBounds_toArray, List.set_cons_zero, List.set_cons_succ]))
            refine Fx.call_ (.int .i64 (cmpF rn rd (lo + k, lo + j) q)) ?_ ?_ (by rfl) ?_ ?_ ?_
            rotate_left 2
            · intro w'
              go_simp
              refine ⟨?_, ?_⟩ <;> rfl
            · intro f w' hD hk
              obtain ⟨hb, hz, h1, h2, h3, h4, h5⟩ := id hD
              have f3 : f 3 = false := hk.1
              have f17 : f 17 = false := hk.2.1 17 (by kernel_rfl)
              exact (compare_any rn rd (lo + k) (lo + j) q.1 q.2 _ h1' h2' h3' h4' (by omega) (by omega) (by omega) (by omega) (by omega) (by omega) (by omega) (by omega)).mono fun e w'' ⟨he, hw⟩ => ⟨he, hb.trans (hw.1.mono (by have := hb.size; omega)), by rw [hw.2, hz]; simp [Fx.add, f3, f17], h1.below hw.1 h1.lt, h2.below hw.1 h2.lt, h3.below hw.1 h3.lt, h4.below hw.1 h4.lt, fun h => by simp [Fx.add, f17] at h⟩
            simp only [Act.put, List.setIfInBounds_toArray, List.set_cons_zero, List.set_cons_succ]
            repeat (first
              | (refine Fx.skip_ (by rfl) (fun f w h => h) ?_; simp only [Act.put, List.setIfInBounds_toArray, List.set_cons_zero, List.set_cons_succ])
              | (refine Fx.val_ ?_ (by rfl) ?_ (fun f w h => h) ?_
                 rotate_left
                 · intro f w' hD hk
                   obtain ⟨hb, hz, h1, h2, h3, h4, h5⟩ := id hD
                   have c0 : w'.cell? ⟨w.heap.size, 0, none⟩ = some (.int .i64 rn) := h1.cell 0
                   have c1 : w'.cell? ⟨w.heap.size, 1, none⟩ = some (.int .i64 rd) := h1.cell 1
                   have c2 : w'.cell? ⟨w.heap.size + 1 + 1, 0, none⟩ = some (.int .i64 q.1) := h3.cell 0
                   have c3 : w'.cell? ⟨w.heap.size + 1 + 1, 1, none⟩ = some (.int .i64 q.2) := h3.cell 1
                   have c4 : w'.cell? ⟨wr.heap.size, 0, none⟩ = some (.int .i64 (lo + k)) := h4.cell 0
                   have c5 : w'.cell? ⟨wr.heap.size, 1, none⟩ = some (.int .i64 (lo + j)) := h4.cell 1
                   clear hk hD hb hz h1 h2 h3 h4 h5
                   go_simp
                   try rfl
                 simp only [Act.put, List.setIfInBounds_toArray, List.set_cons_zero, List.set_cons_succ]))
            refine Fx.call_ (.int .i64 (cmpI (lo + k + (lo + j)) (q.1 + q.2))) ?_ ?_ (by rfl) ?_ ?_ ?_
            rotate_left 2
            · intro w'
              go_simp
              refine ⟨?_, ?_⟩ <;> rfl
            · intro f w' hD hk
              exact (cmp_any _ _ _).mono fun e w'' ⟨he, hw⟩ => ⟨he, hw ▸ hD⟩
            simp only [Act.put, List.setIfInBounds_toArray, List.set_cons_zero, List.set_cons_succ]
            repeat (first
              | (refine Fx.skip_ (by rfl) (fun f w h => h) ?_; simp only [Act.put, List.setIfInBounds_toArray, List.set_cons_zero, List.set_cons_succ])
              | (refine Fx.val_ ?_ (by rfl) ?_ (fun f w h => h) ?_
                 rotate_left
                 · intro f w' hD hk
                   obtain ⟨hb, hz, h1, h2, h3, h4, h5⟩ := id hD
                   have c0 : w'.cell? ⟨w.heap.size, 0, none⟩ = some (.int .i64 rn) := h1.cell 0
                   have c1 : w'.cell? ⟨w.heap.size, 1, none⟩ = some (.int .i64 rd) := h1.cell 1
                   have c2 : w'.cell? ⟨w.heap.size + 1 + 1, 0, none⟩ = some (.int .i64 q.1) := h3.cell 0
                   have c3 : w'.cell? ⟨w.heap.size + 1 + 1, 1, none⟩ = some (.int .i64 q.2) := h3.cell 1
                   have c4 : w'.cell? ⟨wr.heap.size, 0, none⟩ = some (.int .i64 (lo + k)) := h4.cell 0
                   have c5 : w'.cell? ⟨wr.heap.size, 1, none⟩ = some (.int .i64 (lo + j)) := h4.cell 1
                   clear hk hD hb hz h1 h2 h3 h4 h5
                   go_simp
                   try rfl
                 simp only [Act.put, List.setIfInBounds_toArray, List.set_cons_zero, List.set_cons_succ]))
            refine Fx.call_ (.int .i64 (cmpI (lo + k) q.1)) ?_ ?_ (by rfl) ?_ ?_ ?_
            rotate_left 2
            · intro w'
              go_simp
              refine ⟨?_, ?_⟩ <;> rfl
            · intro f w' hD hk
              exact (cmp_any _ _ _).mono fun e w'' ⟨he, hw⟩ => ⟨he, hw ▸ hD⟩
            simp only [Act.put, List.setIfInBounds_toArray, List.set_cons_zero, List.set_cons_succ]
            refine Fx.eff_ (.slice (some ⟨wr.heap.size + 8, 0, none⟩) 3 3) (fun w' => w'.alloc (.cells #[.int .i64 (cmpF rn rd (lo + k, lo + j) q), .int .i64 (cmpI (lo + k + (lo + j)) (q.1 + q.2)), .int .i64 (cmpI (lo + k) q.1)] 3)) (by rfl) ?_ ?_ ?_
            · intro f w' hD hk
              obtain ⟨hb, hz, h1, h2, h3, h4, h5⟩ := id hD
              have f17 : f 17 = false := hk.1
              have f3 : f 3 = true := hk.2.2.1 3 (by kernel_rfl)
              rw [f3, f17] at hz
              simp only [if_true, Bool.false_eq_true, if_false, Nat.add_zero] at hz
              have hz' : w'.heap.size = wr.heap.size + 8 := by omega
              clear hk hD hb hz h1 h2 h3 h4 h5 f3 f17
              go_simp
              try (rw [hz'])
            · intro f w' hD hk
              obtain ⟨hb, hz, h1, h2, h3, h4, h5⟩ := id hD
              have f17 : f 17 = false := hk.1
              have f3 : f 3 = true := hk.2.2.1 3 (by kernel_rfl)
              rw [f3, f17] at hz
              simp only [if_true, Bool.false_eq_true, if_false, Nat.add_zero] at hz
              have hz' : w'.heap.size = wr.heap.size + 8 := by omega
              exact ⟨hb.alloc hb.size _, by simp only [World.size_alloc]; rw [hz]; simp [Fx.add, f3], h1.alloc _, h2.alloc _, h3.alloc _, h4.alloc _, fun _ => Blk.at_ _ hz' _ _⟩
            simp only [Act.put, List.setIfInBounds_toArray, List.set_cons_zero, List.set_cons_succ]
            refine Fx.call_ (.int .i64 (orF (cmpF rn rd (lo + k, lo + j) q) (cmpI (lo + k + (lo + j)) (q.1 + q.2)) (cmpI (lo + k) q.1))) ?_ ?_ (by rfl) ?_ ?_ ?_
            rotate_left 2
            · intro w'
              go_simp
              refine ⟨?_, ?_⟩ <;> rfl
            · intro f w' hD hk
              obtain ⟨hb, hz, h1, h2, h3, h4, h5⟩ := id hD
              have f17 : f 17 = true := hk.2.2.1 17 (by kernel_rfl)
              exact (or_any _ _ _ _ _ (w'.heap.size) _ ⟨rfl, fun _ => ⟨_, 0, rfl, (h5 f17).lt, fun i u hu => by rw [Nat.zero_add, (h5 f17).cell i]; simpa using hu⟩⟩).mono fun e w'' ⟨he, hw⟩ => ⟨he, hw ▸ hD⟩
            simp only [Act.put, List.setIfInBounds_toArray, List.set_cons_zero, List.set_cons_succ]
            repeat (first
              | (refine Fx.skip_ (by rfl) (fun f w h => h) ?_; simp only [Act.put, List.setIfInBounds_toArray, List.set_cons_zero, List.set_cons_succ])
              | (refine Fx.val_ ?_ (by rfl) ?_ (fun f w h => h) ?_
                 rotate_left
                 · intro f w' hD hk
                   obtain ⟨hb, hz, h1, h2, h3, h4, h5⟩ := id hD
                   have c0 : w'.cell? ⟨w.heap.size, 0, none⟩ = some (.int .i64 rn) := h1.cell 0
                   have c1 : w'.cell? ⟨w.heap.size, 1, none⟩ = some (.int .i64 rd) := h1.cell 1
                   have c2 : w'.cell? ⟨w.heap.size + 1 + 1, 0, none⟩ = some (.int .i64 q.1) := h3.cell 0
                   have c3 : w'.cell? ⟨w.heap.size + 1 + 1, 1, none⟩ = some (.int .i64 q.2) := h3.cell 1
                   have c4 : w'.cell? ⟨wr.heap.size, 0, none⟩ = some (.int .i64 (lo + k)) := h4.cell 0
                   have c5 : w'.cell? ⟨wr.heap.size, 1, none⟩ = some (.int .i64 (lo + j)) := h4.cell 1
                   clear hk hD hb hz h1 h2 h3 h4 h5
                   go_simp
                   try rfl
                 simp only [Act.put, List.setIfInBounds_toArray, List.set_cons_zero, List.set_cons_succ]))
            refine Fx.nil_ ?_
            intro f w1 hall hD
            obtain ⟨hb, hz, h1, h2, h3, h4, _⟩ := hD
            try clear hall
            try clear hall
            clear e1 e2
            have hzz : wr.heap.size + 1 ≤ w1.heap.size := by rw [hz]; omega
            have HZ := Lib.hid hz
            clear hz
            have r0 : w1.cell? ⟨wr.heap.size, 0, none⟩ = some (.int .i64 (lo + k)) := h4.cell 0
            have r1 : w1.cell? ⟨wr.heap.size, 1, none⟩ = some (.int .i64 (lo + j)) := h4.cell 1
            have s0 : w1.cell? ⟨w.heap.size + 1 + 1, 0, none⟩ = some (.int .i64 q.1) := h3.cell 0
            have s1 : w1.cell? ⟨w.heap.size + 1 + 1, 1, none⟩ = some (.int .i64 q.2) := h3.cell 1
            have z0 := h3.frozen 0
            have z1 := h3.frozen 1
            have hT := HB.out
            simp only [betterB, decide_eq_false_iff_not, decide_eq_true_eq] at hT
            have hstep : rowF rn rd lo (j + 1) (lo + k) o = stepF rn rd q (lo + k, lo + j) := by rw [rowF_succ, ← HQ.out]
            have HST := Lib.hid hstep
            clear hstep
            go_wp2
            go_roundw
            case rel =>
              first
                | (refine ⟨j + 1, by omega, by go_num, hb, by omega, h1, h2, q, ?_, q1, q2, q3, q4, h3⟩
                   rw [HST.out, stepF, HB.out]; rfl)
                | (refine ⟨j + 1, by omega, by go_num, (hb.setCell (p := ⟨w.heap.size + 1 + 1, 0, none⟩) (by simp; omega) _).setCell (p := ⟨w.heap.size + 1 + 1, 1, none⟩) (by simp; omega) _, by simp [World.setCell]; omega, (h1.far (by simp; omega) _).far (by simp; omega) _, (h2.far (by simp) _).far (by simp) _, (lo + k, lo + j), ?_, by simp; omega, by simp; omega, by simp; omega, by simp; omega, ?_⟩
                   · rw [HST.out, stepF, HB.out]; rfl
                   · exact (h3.set_ 0 _).set_ 1 _)
            case measure => simp [intOf]; omega
        · have hjm : j = m := by omega
          have HK : Hid (bestF rn rd lo m (k + 1) = q) := by show _ = _; rw [bestF_succ, ← HO.out, HQ.out, hjm]
          clear hjm
          go_wp2
          go_roundw
          case rel => exact ⟨k + 1, by omega, by go_num, hbel2, hsz2, hc0, hc1, q, HK.out.symm, q1, q2, q3, q4, hc2⟩
          case measure => simp [intOf]; omega
    · have hkm : k = m := by omega
      have HK : Hid (bestF rn rd lo m m = o) := by show _ = _; rw [HO.out, hkm]
      clear hkm
      have s0 : wr.cell? ⟨w.heap.size + 1 + 1, 0, none⟩ = some (.int .i64 o.1) := hb2.cell 0
      have s1 : wr.cell? ⟨w.heap.size + 1 + 1, 1, none⟩ = some (.int .i64 o.2) := hb2.cell 1
      have u0 : wr.cell? ⟨w.heap.size + 1, 0, none⟩ = some (.int .i64 0) := hb1.cell 0
      have u1 : wr.cell? ⟨w.heap.size + 1, 1, none⟩ = some (.int .i64 0) := hb1.cell 1
      have z0 := hb1.frozen 0
      have z1 := hb1.frozen 1
      go_wp2
      exact bodyPost_ret (v := .agg #[.int .i64 o.1, .int .i64 o.2]) (by simp [results, Try.results83, go_sem, u0, u1]) rfl ⟨by rw [HK.out], (hbel.setCell (p := ⟨w.heap.size + 1, 0, none⟩) (by simp) _).setCell (p := ⟨w.heap.size + 1, 1, none⟩) (by simp) _⟩
end Go.Proofs.Ytoiconebcmneiab

end
