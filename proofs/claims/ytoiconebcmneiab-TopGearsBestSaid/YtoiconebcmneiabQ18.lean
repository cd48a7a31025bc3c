import Derived.Test.YtoiconebcmneiabQ14
import Derived.Test.YtoiconebcmneiabQ17
import Derived.Test.YtoiconebcmneiabQ10
import Derived.Test.YtoiconebcmneiabQ12
import Derived.Test.YtoiconebcmneiabQ6
import Derived.Test.YtoiconebcmneiabQ7
import Derived.Test.YtoiconebcmneiabQ4

section
/- The plain law of sums below a thing: all that lies below a rocker lies below the top. -/
namespace Go.Proofs.Ytoiconebcmneiab
open Go.RowKit

theorem pts_mono {l : List Rk} : ∀ (f : Nat) (s : ByteArray) (ps : List ByteArray), pts l f s = some ps → pts l (f + 1) s = some ps := by
  intro f
  induction f with
  | zero =>
    intro s ps hp
    unfold pts at hp
    cases hi : idxOf l s with
    | none => rw [hi] at hp; unfold pts; rw [hi]; exact hp
    | some i => rw [hi] at hp; cases hp
  | succ f ih =>
    intro s ps hp
    unfold pts at hp
    cases hi : idxOf l s with
    | none => rw [hi] at hp; unfold pts; rw [hi]; exact hp
    | some i =>
      rw [hi] at hp
      simp only at hp
      cases hr : l[i]? with
      | none => rw [hr] at hp; cases hp
      | some r =>
        rw [hr] at hp
        simp only at hp
        cases ha : pts l f r.left with
        | none => rw [ha] at hp; cases hp
        | some a =>
          cases hb : pts l f r.right with
          | none => rw [ha, hb] at hp; cases hp
          | some b =>
            rw [ha, hb] at hp
            unfold pts
            rw [hi]
            simp only [hr]
            rw [ih _ _ ha, ih _ _ hb]
            exact hp

/-- The points below a thing. -/
def below_ (l : List Rk) (s : ByteArray) : List ByteArray := (pts l l.length s).getD []
theorem below_pts {l : List Rk} (h : openErr l = 0) (s : ByteArray) : pts l l.length s = some (below_ l s) := by
  unfold below_
  cases hp : pts l l.length s with
  | none => exact absurd hp (pts_ok h s)
  | some ps => rfl

theorem idx_name {l : List Rk} (h : err1 [] l = 0) {i : Nat} {r : Rk} (hr : l[i]? = some r) : idxOf l r.name = some i := by
  have hall : ∀ (m seen : List Rk), err1 seen m = 0 → ∀ (j : Nat) (x : Rk), m[j]? = some x → idxOf (seen ++ m) x.name = some (seen.length + j) := by
    intro m
    induction m with
    | nil => intro seen _ j x hx; simp at hx
    | cons y m ih =>
      intro seen he j x hx
      unfold err1 at he
      split at he
      · rename_i h0
        cases j with
        | zero =>
          simp at hx
          subst hx
          have hno : idxOf seen y.name = none := by
            cases hi : idxOf seen y.name with
            | none => rfl
            | some q =>
              have : (idxM seen y.name).isSome = true := by unfold idxM; rw [hi]; rfl
              rw [this] at h0
              unfold rkErr at h0
              cases hn : nameB y.name <;> simp [hn] at h0
          have hy : idxOf (y :: m) y.name = some 0 := by unfold idxOf; rw [List.findIdx?_cons]; simp
          rw [idxOf_append, hno, hy]
          simp
        | succ j =>
          have := ih (seen ++ [y]) he j x (by simpa using hx)
          rw [List.append_assoc] at this
          rw [show y :: m = [y] ++ m from rfl, this, List.length_append]
          simp; omega
      · rename_i h0; exact absurd he h0
  have := hall l [] h i r hr
  simpa using this

/-- What lies below a thing lies below its bearer. -/
theorem below_up {l : List Rk} (h : openErr l = 0) {s t : ByteArray} (hu : upOf l s = some t) : ∀ x ∈ below_ l s, x ∈ below_ l t := by
  obtain ⟨h0, h1, h2, hn, h4, h5⟩ := open_zero h
  unfold upOf at hu
  cases hb : bearerOf l s with
  | none => rw [hb] at hu; cases hu
  | some i =>
    obtain ⟨r, hr, hs⟩ := bearer_get hb
    rw [hb] at hu
    simp only [Option.bind_some, hr, Option.map_some, Option.some.injEq] at hu
    subst hu
    have hidx := idx_name h2 hr
    have hp := below_pts h r.name
    obtain ⟨f, hf⟩ : ∃ f, l.length = f + 1 := ⟨l.length - 1, by omega⟩
    intro x hx
    have hps := below_pts h s
    rw [hf] at hp hps
    unfold pts at hp
    rw [hidx] at hp
    simp only [hr] at hp
    cases ha : pts l f r.left with
    | none => rw [ha] at hp; cases hp
    | some a =>
      cases hbb : pts l f r.right with
      | none => rw [ha, hbb] at hp; cases hp
      | some b =>
        rw [ha, hbb] at hp
        have e := Option.some.inj hp
        rw [← e]
        rcases hs with e2 | e2
        · rw [← e2, pts_mono _ _ _ ha] at hps
          rw [← e2, ← Option.some.inj hps] at hx
          exact List.mem_append_left _ hx
        · rw [← e2, pts_mono _ _ _ hbb] at hps
          rw [← e2, ← Option.some.inj hps] at hx
          exact List.mem_append_right _ hx

theorem below_top {l : List Rk} (h : openErr l = 0) : ∀ (f : Nat) (i : Nat) (r : Rk), l[i]? = some r → climbs l f r.name = false → ∀ x ∈ below_ l r.name, x ∈ below_ l (topName l)
  | f, i, r, hr, hc => by
    cases hb : bearerOf l r.name with
    | none =>
      have hT : hasB (borneAll l) r.name = false := by
        have := bearer_mem (l := l) (s := r.name)
        rw [hb] at this
        cases hh : hasB (borneAll l) r.name with
        | false => rfl
        | true => rw [hh] at this; cases this
      rw [top_name h hr hT]
      exact fun x hx => hx
    | some j =>
      obtain ⟨r', hr', hs⟩ := bearer_get hb
      have hu : upOf l r.name = some r'.name := by unfold upOf; rw [hb]; simp [hr']
      cases f with
      | zero => simp [climbs, hb] at hc
      | succ f =>
        have ih := below_top h f j r' hr' (by simpa [climbs, hb, hr'] using hc)
        exact fun x hx => ih x (below_up h hu x hx)

theorem below_side {l : List Rk} (h : openErr l = 0) {r : Rk} {i : Nat} (hr : l[i]? = some r) {s : ByteArray} (hs : r.left = s ∨ r.right = s) : ∀ x ∈ below_ l s, x ∈ below_ l (topName l) := by
  obtain ⟨h0, h1, h2, hn, h4, h5⟩ := open_zero h
  intro x hx
  have hc : climbs l (l.length + 1) r.name = false := by simpa using List.any_eq_false.1 h4 r (List.mem_of_getElem? hr)
  exact below_top h _ i r hr hc x (below_up h (up_of_child hn hr hs) x hx)

/-- The number of a point. -/
def posOf (ps : List ByteArray) (s : ByteArray) : Option Nat := ps.findIdx? fun x => decide (x = s)
theorem posOf_some {ps : List ByteArray} {s : ByteArray} {i : Nat} (h : posOf ps s = some i) : ps[i]? = some s ∧ ∀ j, j < i → ∀ x, ps[j]? = some x → x ≠ s := by
  unfold posOf at h
  obtain ⟨hi, hp, hn⟩ := List.findIdx?_eq_some_iff_getElem.1 h
  refine ⟨?_, fun j hj x hx e => ?_⟩
  · rw [List.getElem?_eq_getElem hi, of_decide_eq_true hp]
  · obtain ⟨g1, g2⟩ := List.getElem?_eq_some_iff.1 hx
    have := hn j hj
    rw [g2] at this
    exact absurd e (of_decide_eq_false (by simpa using this))
theorem posOf_mem {ps : List ByteArray} {s : ByteArray} (h : s ∈ ps) : ∃ i, posOf ps s = some i := by
  cases hp : posOf ps s with
  | some i => exact ⟨i, rfl⟩
  | none =>
    unfold posOf at hp
    have := List.findIdx?_eq_none_iff.1 hp s h
    simp at this
/-- What a point carries. -/
def loadOf (ps : List ByteArray) (xs : List Int) (s : ByteArray) : Int := match posOf ps s with | some i => xs.getD i 0 | none => 0
/-- What things carry together. -/
def sumF (g : ByteArray → Int) (qs : List ByteArray) : Int := qs.foldl (fun t s => t + g s) 0
theorem sumF_snoc (g : ByteArray → Int) (qs : List ByteArray) (s : ByteArray) : sumF g (qs ++ [s]) = sumF g qs + g s := by
  unfold sumF; rw [List.foldl_append]; rfl
theorem sumF_acc {g : ByteArray → Int} {b : Int} : ∀ (qs : List ByteArray) (t : Int), (∀ s ∈ qs, 0 ≤ g s ∧ g s ≤ b) → t ≤ qs.foldl (fun t s => t + g s) t ∧ qs.foldl (fun t s => t + g s) t ≤ t + b * qs.length
  | [], t, _ => by simp
  | s :: qs, t, h => by
    have h1 := sumF_acc qs (t + g s) fun x hx => h x (by simp [hx])
    have h2 := h s (by simp)
    have e : b * (((s :: qs).length : Nat) : Int) = b * qs.length + b := by simp [Int.mul_add]
    rw [List.foldl_cons, e]
    omega
theorem sumF_bound {g : ByteArray → Int} {b : Int} (qs : List ByteArray) (h : ∀ s ∈ qs, 0 ≤ g s ∧ g s ≤ b) : 0 ≤ sumF g qs ∧ sumF g qs ≤ b * qs.length := by
  have := sumF_acc qs 0 h
  unfold sumF
  omega
def underI (l : List Rk) (ps : List ByteArray) (xs : List Int) (s : ByteArray) : Int := sumF (loadOf ps xs) (below_ l s)
theorem loadOf_bound {ps : List ByteArray} {xs : List Int} {b : Int} (hb : 0 ≤ b) (h : ∀ z ∈ xs, 0 ≤ z ∧ z ≤ b) (s : ByteArray) : 0 ≤ loadOf ps xs s ∧ loadOf ps xs s ≤ b := by
  unfold loadOf
  cases posOf ps s with
  | none => simp; exact hb
  | some i =>
    simp only
    rw [List.getD]
    cases hx : xs[i]? with
    | none => simp; exact hb
    | some z => exact h z (List.mem_of_getElem? hx)
theorem below_len {l : List Rk} (h : openErr l = 0) (s : ByteArray) : (below_ l s).length ≤ 2 ^ l.length := (pts_len _ _ _ (below_pts h s)).2

end Go.Proofs.Ytoiconebcmneiab

end

section
/- The plain law of arms: the tree with new arms has the same names; its shares are the loads. -/
namespace Go.Proofs.Ytoiconebcmneiab
open Go.RowKit

/-- A rocker without its arms. -/
def bare (r : Rk) : Rk := { r with al := 1, ar := 1 }
theorem bare_idx (l : List Rk) (s : ByteArray) : idxOf (l.map bare) s = idxOf l s := by
  unfold idxOf; rw [List.findIdx?_map]; rfl
theorem bare_bearer (l : List Rk) (s : ByteArray) : bearerOf (l.map bare) s = bearerOf l s := by
  unfold bearerOf; rw [List.findIdx?_map]; rfl
theorem bare_borne (l : List Rk) : borneAll (l.map bare) = borneAll l := by
  unfold borneAll; rw [List.flatMap_map]; rfl
theorem bare_name (l : List Rk) (i : Nat) : ((l.map bare)[i]?).map (·.name) = (l[i]?).map (·.name) := by
  rw [List.getElem?_map, Option.map_map]; rfl
theorem bare_climbs (l : List Rk) : ∀ (f : Nat) (s : ByteArray), climbs (l.map bare) f s = climbs l f s := by
  intro f
  induction f with
  | zero => intro s; unfold climbs; rw [bare_bearer]
  | succ f ih =>
    intro s
    unfold climbs
    rw [bare_bearer]
    cases bearerOf l s with
    | none => rfl
    | some i => simp only; rw [bare_name, ih]
theorem bare_tops (l : List Rk) : topsOf (l.map bare) = topsOf l := by
  unfold topsOf topsTo
  rw [List.length_map]
  congr 1
  funext i
  unfold isTop
  rw [List.getElem?_map]
  cases l[i]? with
  | none => rfl
  | some r => simp only [Option.map_some]; rw [bare_bearer]; rfl
theorem bare_top (l : List Rk) : topName (l.map bare) = topName l := by
  unfold topName topOf; rw [bare_tops, bare_name]
theorem bare_pts (l : List Rk) : ∀ (f : Nat) (s : ByteArray), pts (l.map bare) f s = pts l f s := by
  intro f
  induction f with
  | zero => intro s; unfold pts; rw [bare_idx]
  | succ f ih =>
    intro s
    unfold pts
    rw [bare_idx]
    cases idxOf l s with
    | none => rfl
    | some i =>
      simp only
      rw [List.getElem?_map]
      cases l[i]? with
      | none => rfl
      | some r =>
        simp only [Option.map_some]
        rw [ih, ih]
        rfl

/-- Two trees with the same names. -/
def Alike (l x : List Rk) : Prop := l.map bare = x.map bare
theorem Alike.len {l x : List Rk} (h : Alike l x) : l.length = x.length := by have := congrArg List.length h; simpa using this
theorem Alike.idx {l x : List Rk} (h : Alike l x) (s : ByteArray) : idxOf x s = idxOf l s := by rw [← bare_idx, ← bare_idx l, h]
theorem Alike.pts {l x : List Rk} (h : Alike l x) (f : Nat) (s : ByteArray) : pts x f s = pts l f s := by rw [← bare_pts, ← bare_pts l, h]
theorem Alike.top {l x : List Rk} (h : Alike l x) : topName x = topName l := by rw [← bare_top, ← bare_top l, h]
theorem Alike.ptsOf {l x : List Rk} (h : Alike l x) : ptsOf x = ptsOf l := by
  unfold Proofs.Ytoiconebcmneiab.ptsOf; rw [h.pts, h.top, h.len]
theorem Alike.below {l x : List Rk} (h : Alike l x) (s : ByteArray) : below_ x s = below_ l s := by
  unfold below_; rw [h.pts, h.len]

theorem rkErr_zero {b : Bool} {r : Rk} : rkErr b r = 0 ↔ nameB r.name = true ∧ b = false ∧ nameB r.left = true ∧ nameB r.right = true ∧ withinB r.al 1 10000 = true ∧ withinB r.ar 1 10000 = true := by
  unfold rkErr
  cases nameB r.name <;> cases b <;> cases nameB r.left <;> cases nameB r.right <;> cases withinB r.al 1 10000 <;> cases withinB r.ar 1 10000 <;> simp

theorem err1_alike : ∀ (l x seen seen' : List Rk), Alike seen seen' → Alike l x → (∀ r ∈ x, withinB r.al 1 10000 = true ∧ withinB r.ar 1 10000 = true) → err1 seen l = 0 → err1 seen' x = 0
  | [], x, seen, seen', _, hx, _, _ => by
    have := hx.len
    simp at this
    obtain rfl := List.eq_nil_of_length_eq_zero this.symm
    rfl
  | r :: l, x, seen, seen', hs, hx, ha, he => by
    cases x with
    | nil => have := hx.len; simp at this
    | cons y x =>
      have h1 : bare r = bare y ∧ Alike l x := by
        unfold Alike at hx
        rw [List.map_cons, List.map_cons] at hx
        exact ⟨(List.cons.inj hx).1, (List.cons.inj hx).2⟩
      have e1 : r.name = y.name := by have := congrArg Rk.name h1.1; exact this
      have e2 : r.left = y.left := by have := congrArg Rk.left h1.1; exact this
      have e3 : r.right = y.right := by have := congrArg Rk.right h1.1; exact this
      unfold err1 at he ⊢
      have h0 : rkErr (idxM seen r.name).isSome r = 0 := by
        by_cases h : rkErr (idxM seen r.name).isSome r = 0
        · exact h
        · rw [if_neg h] at he; exact absurd he h
      rw [if_pos h0] at he
      have hi : (idxM seen' y.name).isSome = (idxM seen r.name).isSome := by unfold idxM; rw [hs.idx, e1]
      have h2 : rkErr (idxM seen' y.name).isSome y = 0 := by
        rw [hi]
        obtain ⟨g1, g2, g3, g4, g5, g6⟩ := rkErr_zero.1 h0
        obtain ⟨a1, a2⟩ := ha y (by simp)
        exact rkErr_zero.2 ⟨by rw [← e1]; exact g1, g2, by rw [← e2]; exact g3, by rw [← e3]; exact g4, a1, a2⟩
      rw [if_pos h2]
      refine err1_alike l x _ _ ?_ h1.2 (fun r hr => ha r (by simp [hr])) he
      unfold Alike at hs ⊢
      rw [List.map_append, List.map_append, hs]
      simp [h1.1]

theorem open_alike {l x : List Rk} (h : Alike l x) (ha : ArmsOK x) (h0 : openErr l = 0) : openErr x = 0 := by
  have hb : borneAll x = borneAll l := by rw [← bare_borne, ← bare_borne l, h]
  have ht : topsOf x = topsOf l := by rw [← bare_tops, ← bare_tops l, h]
  have hn : x.any (fun r => climbs x (x.length + 1) r.name) = l.any (fun r => climbs l (l.length + 1) r.name) := by
    have e : ∀ s, climbs x (x.length + 1) s = climbs l (l.length + 1) s := fun s => by rw [← bare_climbs, ← bare_climbs l, h, h.len]
    have e2 : ∀ m : List Rk, m.any (fun r => climbs l (l.length + 1) r.name) = (m.map bare).any (fun r => climbs l (l.length + 1) r.name) := fun m => by rw [List.any_map]; rfl
    rw [show (fun r : Rk => climbs x (x.length + 1) r.name) = fun r => climbs l (l.length + 1) r.name from funext fun r => e r.name, e2 x, e2 l, h]
  obtain ⟨g0, g1, g2, g3, g4, g5⟩ := open_zero h0
  have hl := h.len
  have e1 : err1 [] x = 0 := err1_alike l x [] [] rfl h (fun r hr => by
    obtain ⟨a1, a2, a3, a4⟩ := ha r hr
    exact ⟨(withinB_iff _ _ _).2 ⟨a1, a2⟩, (withinB_iff _ _ _).2 ⟨a3, a4⟩⟩) g2
  unfold openErr at h0 ⊢
  rw [hb, ht, hn, e1, ← hl]
  rw [g2] at h0
  exact h0

/-- The arms that balance two loads. -/
def armR (r : Rk) (p : Int × Int) : Rk := { r with al := redN p.2 p.1, ar := redD p.2 p.1 }
def armsTo (l : List Rk) (S : List (Int × Int)) (k : Nat) : List Rk := (List.zipWith armR l S).take k ++ l.drop k
def bigA (p : Int × Int) : Bool := decide (10000 < redN p.2 p.1) || decide (10000 < redD p.2 p.1)
theorem armsTo_len {l : List Rk} {S : List (Int × Int)} (h : S.length = l.length) (k : Nat) : (armsTo l S k).length = l.length := by
  unfold armsTo; rw [List.length_append, List.length_take, List.length_zipWith, List.length_drop]; omega
theorem armsTo_get {l : List Rk} {S : List (Int × Int)} (h : S.length = l.length) {k i : Nat} {r : Rk} (hr : l[i]? = some r) (hi : k ≤ i) : (armsTo l S k)[i]? = some r := by
  have hil := (List.getElem?_eq_some_iff.1 hr).1
  unfold armsTo
  have e : ((List.zipWith armR l S).take k).length = k := by rw [List.length_take, List.length_zipWith]; omega
  rw [List.getElem?_append_right (by omega), e, List.getElem?_drop, show k + (i - k) = i by omega, hr]
theorem armsTo_succ {l : List Rk} {S : List (Int × Int)} {k : Nat} {r : Rk} {p : Int × Int} (hr : l[k]? = some r) (hp : S[k]? = some p) : (armsTo l S k).set k (armR r p) = armsTo l S (k + 1) := by
  have hil := (List.getElem?_eq_some_iff.1 hr).1
  have hpl := (List.getElem?_eq_some_iff.1 hp).1
  have hz : (List.zipWith armR l S)[k]? = some (armR r p) := by rw [List.getElem?_zipWith, hr, hp]
  unfold armsTo
  have e : ((List.zipWith armR l S).take k).length = k := by rw [List.length_take, List.length_zipWith]; omega
  have hd : l.drop k = r :: l.drop (k + 1) := by
    have := List.drop_eq_getElem_cons hil
    rw [this]
    congr 1
    exact (List.getElem?_eq_some_iff.1 hr).2
  rw [hd, List.set_append_right _ _ (by omega), e, Nat.sub_self, List.set_cons_zero, List.take_add_one, hz, List.append_assoc]
  rfl
theorem armsTo_all {l : List Rk} {S : List (Int × Int)} (h : S.length = l.length) : armsTo l S l.length = List.zipWith armR l S := by
  unfold armsTo; rw [List.drop_length, List.append_nil, List.take_of_length_le (by rw [List.length_zipWith]; omega)]
theorem armsTo_zero (l : List Rk) (S : List (Int × Int)) : armsTo l S 0 = l := by simp [armsTo]
theorem arms_alike : ∀ (l : List Rk) (S : List (Int × Int)), S.length = l.length → Alike l (List.zipWith armR l S)
  | [], S, _ => by simp [Alike]
  | r :: l, [], h => by simp at h
  | r :: l, p :: S, h => by
    have := arms_alike l S (by simpa using h)
    unfold Alike at this ⊢
    rw [List.zipWith_cons_cons, List.map_cons, List.map_cons, this]
    rfl

theorem rkCells_set : ∀ (l : List Rk) (k : Nat) (r : Rk) (a b : Int), l[k]? = some r → ((rkCells l).set (k * 5 + 3) (.int .i64 a)).set (k * 5 + 4) (.int .i64 b) = rkCells (l.set k { r with al := a, ar := b })
  | [], k, r, a, b, h => by simp at h
  | x :: l, 0, r, a, b, h => by
    simp at h
    subst h
    simp [rkCells, Rk.cells]
  | x :: l, k + 1, r, a, b, h => by
    have ih := rkCells_set l k r a b (by simpa using h)
    have e : rkCells (x :: l) = .string x.name :: .string x.left :: .string x.right :: .int .i64 x.al :: .int .i64 x.ar :: rkCells l := rfl
    rw [List.set_cons_succ, e, show (k + 1) * 5 + 3 = k * 5 + 3 + 1 + 1 + 1 + 1 + 1 by omega, show (k + 1) * 5 + 4 = k * 5 + 4 + 1 + 1 + 1 + 1 + 1 by omega]
    simp only [List.set_cons_succ]
    rw [ih]
    rfl

/-- The errors of loads. -/
def armsErr (np : Nat) (xs : List Int) : Int := if xs.length ≠ np then 10 else if xs.any (fun z => !(withinB z 1 1000000)) then 2 else 0

theorem red_eq {a b c d : Int} (hb : 0 < b) (hd : 0 < d) (h : a * d = c * b) : redN a b = redN c d ∧ redD a b = redD c d := by
  have h1 := red_scale hd a b
  have h2 := red_scale hb c d
  have e : d * a = b * c := by rw [Int.mul_comm d a, h, Int.mul_comm]
  have e2 : d * b = b * d := Int.mul_comm _ _
  rw [e, e2] at h1
  exact ⟨h1.1.symm.trans h2.1, h1.2.1.symm.trans h2.2.1⟩

theorem red_mul {a b : Int} (hb : 0 < b) : redN a b * b = redD a b * a ∧ 0 < redD a b := by
  have hg : 0 < (Int.gcd a b : Int) := by exact_mod_cast Int.gcd_pos_of_ne_zero_right a (by omega)
  obtain ⟨p, hp⟩ := Int.gcd_dvd_left a b
  obtain ⟨q, hq⟩ := Int.gcd_dvd_right a b
  have e1 : redN a b = p := by unfold redN; exact Int.ediv_eq_of_eq_mul_right (by omega) hp
  have e2 : redD a b = q := by unfold redD; exact Int.ediv_eq_of_eq_mul_right (by omega) hq
  rw [e1, e2]
  generalize (Int.gcd a b : Int) = g at *
  refine ⟨?_, ?_⟩
  · rw [hp, hq]; grind
  · rw [hq] at hb
    rw [Int.mul_comm] at hb
    exact Int.pos_of_mul_pos_left hb hg

theorem sumF_acc_eq (g : ByteArray → Int) : ∀ (b : List ByteArray) (t : Int), b.foldl (fun t s => t + g s) t = t + b.foldl (fun t s => t + g s) 0
  | [], t => by simp
  | s :: b, t => by rw [List.foldl_cons, List.foldl_cons, sumF_acc_eq g b (t + g s), sumF_acc_eq g b (0 + g s)]; omega
theorem sumF_append (g : ByteArray → Int) (a b : List ByteArray) : sumF g (a ++ b) = sumF g a + sumF g b := by
  unfold sumF; rw [List.foldl_append, sumF_acc_eq]

theorem pts_le {l : List Rk} {f g : Nat} (h : f ≤ g) {s : ByteArray} {ps : List ByteArray} (hp : pts l f s = some ps) : pts l g s = some ps := by
  induction g with
  | zero => obtain rfl : f = 0 := by omega
            exact hp
  | succ g ih =>
    by_cases e : f = g + 1
    · rw [← e]; exact hp
    · exact pts_mono _ _ _ (ih (by omega))
theorem below_of {l : List Rk} {f : Nat} (h : f ≤ l.length) {s : ByteArray} {ps : List ByteArray} (hp : pts l f s = some ps) : below_ l s = ps := by
  unfold below_; rw [pts_le h hp]; rfl

/-- The shares of the tree with the arms that balance loads are the loads' shares. -/
theorem arms_sh {l : List Rk} {ps : List ByteArray} {xs : List Int} {T : Int} (hT : 0 < T) (hpos : ∀ (i : Nat) (r : Rk), l[i]? = some r → 1 ≤ underI l ps xs r.left ∧ 1 ≤ underI l ps xs r.right) :
    ∀ (f : Nat), f ≤ l.length → ∀ (s : ByteArray) (qs : List ByteArray) (zs : List (Int × Int)), pts l f s = some qs →
      sh (List.zipWith armR l (l.map fun r : Rk => (underI l ps xs r.left, underI l ps xs r.right))) f s (redN (underI l ps xs s) T) (redD (underI l ps xs s) T) = some zs →
      zs = qs.map fun q => (redN (loadOf ps xs q) T, redD (loadOf ps xs q) T) := by
  have hA : Alike l (List.zipWith armR l (l.map fun r : Rk => (underI l ps xs r.left, underI l ps xs r.right))) := arms_alike _ _ (by rw [List.length_map])
  have leaf : ∀ (f : Nat), f ≤ l.length → ∀ s qs, pts l f s = some qs → idxOf l s = none → qs = [s] ∧ underI l ps xs s = loadOf ps xs s := by
    intro f hf s qs hp hi
    have hq : qs = [s] := by
      cases f with
      | zero => unfold pts at hp; rw [hi] at hp; exact (Option.some.inj hp).symm
      | succ f => unfold pts at hp; rw [hi] at hp; exact (Option.some.inj hp).symm
    refine ⟨hq, ?_⟩
    unfold underI
    rw [below_of hf hp, hq]
    simp [sumF]
  intro f
  induction f with
  | zero =>
    intro hf s qs zs hp hz
    have hi : idxOf l s = none := by
      cases hi : idxOf l s with
      | none => rfl
      | some i => unfold pts at hp; rw [hi] at hp; cases hp
    obtain ⟨rfl, hu⟩ := leaf 0 hf s qs hp hi
    unfold sh at hz
    rw [← Option.some.inj hz, hu]
    rfl
  | succ f ih =>
    intro hf s qs zs hp hz
    cases hi : idxOf l s with
    | none =>
      obtain ⟨rfl, hu⟩ := leaf (f + 1) hf s qs hp hi
      unfold sh at hz
      rw [hA.idx, hi] at hz
      simp only at hz
      rw [← Option.some.inj hz, hu]
      rfl
    | some i =>
      have hp0 := hp
      unfold pts at hp
      rw [hi] at hp
      simp only at hp
      cases hr : l[i]? with
      | none => rw [hr] at hp; cases hp
      | some r =>
        rw [hr] at hp
        simp only at hp
        cases ha : pts l f r.left with
        | none => rw [ha] at hp; cases hp
        | some a =>
          cases hb : pts l f r.right with
          | none => rw [ha, hb] at hp; cases hp
          | some b =>
            rw [ha, hb] at hp
            have hqs : a ++ b = qs := Option.some.inj hp
            have hU : underI l ps xs s = underI l ps xs r.left + underI l ps xs r.right := by
              unfold underI
              rw [below_of hf hp0, below_of (by omega) ha, below_of (by omega) hb, ← hqs, sumF_append]
            obtain ⟨p1, p2⟩ := hpos i r hr
            have hx : (List.zipWith armR l (l.map fun r : Rk => (underI l ps xs r.left, underI l ps xs r.right)))[i]? = some (armR r (underI l ps xs r.left, underI l ps xs r.right)) := by
              rw [List.getElem?_zipWith, List.getElem?_map, hr]; rfl
            unfold sh at hz
            rw [hA.idx, hi] at hz
            simp only [hx] at hz
            have hjoin : ∃ z1 z2, sh (List.zipWith armR l (l.map fun r : Rk => (underI l ps xs r.left, underI l ps xs r.right))) f r.left (redN (redN (underI l ps xs s) T * redD (underI l ps xs r.right) (underI l ps xs r.left)) (redD (underI l ps xs s) T * (redN (underI l ps xs r.right) (underI l ps xs r.left) + redD (underI l ps xs r.right) (underI l ps xs r.left)))) (redD (redN (underI l ps xs s) T * redD (underI l ps xs r.right) (underI l ps xs r.left)) (redD (underI l ps xs s) T * (redN (underI l ps xs r.right) (underI l ps xs r.left) + redD (underI l ps xs r.right) (underI l ps xs r.left)))) = some z1 ∧
                sh (List.zipWith armR l (l.map fun r : Rk => (underI l ps xs r.left, underI l ps xs r.right))) f r.right (redN (redN (underI l ps xs s) T * redN (underI l ps xs r.right) (underI l ps xs r.left)) (redD (underI l ps xs s) T * (redN (underI l ps xs r.right) (underI l ps xs r.left) + redD (underI l ps xs r.right) (underI l ps xs r.left)))) (redD (redN (underI l ps xs s) T * redN (underI l ps xs r.right) (underI l ps xs r.left)) (redD (underI l ps xs s) T * (redN (underI l ps xs r.right) (underI l ps xs r.left) + redD (underI l ps xs r.right) (underI l ps xs r.left)))) = some z2 ∧ zs = z1 ++ z2 := by
              split at hz
              · unfold join2 at hz
                split at hz
                · rename_i z1 z2 e1 e2
                  exact ⟨z1, z2, e1, e2, (Option.some.inj hz).symm⟩
                · cases hz
              · cases hz
            obtain ⟨z1, z2, h1, h2, rfl⟩ := hjoin
            obtain ⟨m1, m2⟩ := red_mul (a := underI l ps xs s) hT
            obtain ⟨m3, m4⟩ := red_mul (a := underI l ps xs r.right) (b := underI l ps xs r.left) (by omega)
            have m5 : 0 < redN (underI l ps xs r.right) (underI l ps xs r.left) := by
              have : 0 < redN (underI l ps xs r.right) (underI l ps xs r.left) * underI l ps xs r.left := by rw [m3]; exact Int.mul_pos m4 (by omega)
              exact Int.pos_of_mul_pos_left this (by omega)
            rw [hU] at m1
            have hden : 0 < redD (underI l ps xs s) T * (redN (underI l ps xs r.right) (underI l ps xs r.left) + redD (underI l ps xs r.right) (underI l ps xs r.left)) := Int.mul_pos m2 (by omega)
            rw [hU] at h1 h2 hden m2
            obtain ⟨L, hL⟩ : ∃ L, underI l ps xs r.left = L := ⟨_, rfl⟩
            obtain ⟨R, hR⟩ : ∃ R, underI l ps xs r.right = R := ⟨_, rfl⟩
            rw [hL, hR] at m1 m2 m3 m4 m5 hden h1 h2
            generalize redN (L + R) T = n at *
            generalize redD (L + R) T = d at *
            generalize redN R L = al at *
            generalize redD R L = ar at *
            have q1 := red_eq (a := n * ar) (b := d * (al + ar)) (c := L) (d := T) hden hT (by grind)
            have q2 := red_eq (a := n * al) (b := d * (al + ar)) (c := R) (d := T) hden hT (by grind)
            rw [q1.1, q1.2] at h1
            rw [q2.1, q2.2, ← hR] at h2
            rw [← hL] at h1
            rw [ih (by omega) _ _ _ ha h1, ih (by omega) _ _ _ hb h2, ← hqs, List.map_append]
end Go.Proofs.Ytoiconebcmneiab

end

section
/- The plain law of joined trains: the ratio of a joined train is the product; when it is back, its first part is. -/
namespace Go.Proofs.Ytoiconebcmneiab
open Go.RowKit

/-- The products of drivers and of drivens. -/
def rawF : Int × Int → List (Int × Int) → Int × Int
  | f, [] => f
  | f, g :: l => rawF (f.1 * g.1, f.2 * g.2) l
theorem rawF_mul : ∀ (l : List (Int × Int)) (f : Int × Int), rawF f l = (f.1 * (rawF (1, 1) l).1, f.2 * (rawF (1, 1) l).2)
  | [], f => by simp [rawF]
  | g :: l, f => by
    unfold rawF
    rw [rawF_mul l (f.1 * g.1, f.2 * g.2), rawF_mul l ((1, 1).1 * g.1, (1, 1).2 * g.2)]
    simp only [Int.one_mul, Int.mul_assoc]
theorem rawF_append : ∀ (a b : List (Int × Int)) (f : Int × Int), rawF f (a ++ b) = rawF (rawF f a) b
  | [], b, f => rfl
  | g :: a, b, f => by
    show rawF (f.1 * g.1, f.2 * g.2) (a ++ b) = rawF (rawF (f.1 * g.1, f.2 * g.2) a) b
    exact rawF_append a b _
theorem rawF_pos : ∀ (l : List (Int × Int)) (f : Int × Int), 0 < f.1 → 0 < f.2 → l.all okP = true → 0 < (rawF f l).1 ∧ 0 < (rawF f l).2
  | [], f, h1, h2, _ => ⟨h1, h2⟩
  | g :: l, f, h1, h2, h => by
    rw [List.all_cons, Bool.and_eq_true] at h
    unfold okP at h
    rw [Bool.and_eq_true] at h
    have g1 := (withinB_iff _ _ _).1 h.1.1
    have g2 := (withinB_iff _ _ _).1 h.1.2
    exact rawF_pos l _ (Int.mul_pos h1 (by omega)) (Int.mul_pos h2 (by omega)) h.2

/-- Where the beginnings end: the reduced products. -/
theorem begF_last : ∀ (l : List (Int × Int)) (f : Int × Int) (s : Int × Int) (N D : Int), 0 < N → 0 < D → f = (redN N D, redD N D) → l.all okP = true → (begF f l).2 = true →
    lastF (begF f l).1 s = (redN (rawF (N, D) l).1 (rawF (N, D) l).2, redD (rawF (N, D) l).1 (rawF (N, D) l).2)
  | [], f, s, N, D, _, _, e, _, _ => by
    unfold begF rawF lastF
    exact e
  | g :: l, f, s, N, D, hN, hD, e, hl, hb => by
    have hl' := hl
    rw [List.all_cons, Bool.and_eq_true] at hl
    have h0 := hl.1
    unfold okP at h0
    rw [Bool.and_eq_true] at h0
    have g1 := (withinB_iff _ _ _).1 h0.1
    have g2 := (withinB_iff _ _ _).1 h0.2
    unfold begF at hb ⊢
    by_cases hs : smallB (f.1 * g.1) (f.2 * g.2) = true
    · rw [if_pos hs] at hb ⊢
      simp only at hb ⊢
      have hstep : (redN (f.1 * g.1) (f.2 * g.2), redD (f.1 * g.1) (f.2 * g.2)) = (redN (N * g.1) (D * g.2), redD (N * g.1) (D * g.2)) := by
        obtain ⟨m1, m2⟩ := red_mul (a := N) (b := D) hD
        rw [e]
        simp only
        have := red_eq (a := redN N D * g.1) (b := redD N D * g.2) (c := N * g.1) (d := D * g.2) (Int.mul_pos m2 (by omega)) (Int.mul_pos hD (by omega)) (by grind)
        rw [this.1, this.2]
      have ih := begF_last l _ f (N * g.1) (D * g.2) (Int.mul_pos hN (by omega)) (Int.mul_pos hD (by omega)) hstep hl.2 hb
      unfold lastF at ih ⊢
      rw [List.foldl_cons, ih]
      rfl
    · rw [if_neg hs] at hb
      cases hb

theorem ratio_raw {l : List (Int × Int)} {x y : Int} (h : ratioF l = ((x, y), 0)) : x = redN (rawF (1, 1) l).1 (rawF (1, 1) l).2 ∧ y = redD (rawF (1, 1) l).1 (rawF (1, 1) l).2 := by
  have hp := (ratio_part h).1
  unfold ratioF at h
  rw [if_neg (by simpa using hp)] at h
  split at h
  · cases h
  · rename_i hb
    have hb' : (begF (1, 1) l).2 = true := by simpa using hb
    have := begF_last l (1, 1) (0, 0) 1 1 (by decide) (by decide) (by decide) (trainErr_ok hp).2 hb'
    have e := congrArg (fun q => q.1) h
    simp only at e
    rw [this] at e
    exact ⟨(congrArg Prod.fst e).symm, (congrArg Prod.snd e).symm⟩

/-- The ratio of a joined train is the product of the ratios, and is small. -/
theorem ratio_join {a b : List (Int × Int)} {x1 y1 x2 y2 x3 y3 : Int} (ha : ratioF a = ((x1, y1), 0)) (hb : ratioF b = ((x2, y2), 0)) (hab : ratioF (a ++ b) = ((x3, y3), 0)) :
    redN (x1 * x2) (y1 * y2) = x3 ∧ redD (x1 * x2) (y1 * y2) = y3 ∧ smallB (x1 * x2) (y1 * y2) = true := by
  have pa := trainErr_ok (ratio_part ha).1
  have pb := trainErr_ok (ratio_part hb).1
  have p3 := ratio_part hab
  obtain ⟨e1, e2⟩ := ratio_raw ha
  obtain ⟨e3, e4⟩ := ratio_raw hb
  obtain ⟨e5, e6⟩ := ratio_raw hab
  obtain ⟨n1, n2⟩ := rawF_pos a (1, 1) (by decide) (by decide) pa.2
  obtain ⟨n3, n4⟩ := rawF_pos b (1, 1) (by decide) (by decide) pb.2
  rw [rawF_append, rawF_mul] at e5 e6
  simp only at e5 e6
  generalize (rawF (1, 1) a).1 = A at *
  generalize (rawF (1, 1) a).2 = B at *
  generalize (rawF (1, 1) b).1 = C at *
  generalize (rawF (1, 1) b).2 = D at *
  obtain ⟨m1, m2⟩ := red_mul (a := A) (b := B) n2
  obtain ⟨m3, m4⟩ := red_mul (a := C) (b := D) n4
  rw [← e1, ← e2] at m1
  rw [← e3, ← e4] at m3
  rw [← e2] at m2
  rw [← e4] at m4
  have h := red_eq (a := x1 * x2) (b := y1 * y2) (c := A * C) (d := B * D) (Int.mul_pos m2 m4) (Int.mul_pos n2 n4) (by grind)
  rw [← e5, ← e6] at h
  refine ⟨h.1, h.2, ?_⟩
  unfold smallB
  have h1 : x1 * x2 / (Int.gcd (x1 * x2) (y1 * y2) : Int) = x3 := h.1
  have h2 : y1 * y2 / (Int.gcd (x1 * x2) (y1 * y2) : Int) = y3 := h.2
  rw [h1, h2, Bool.and_eq_true]
  obtain ⟨-, q1, q2⟩ := p3
  exact ⟨(withinB_iff _ _ _).2 ⟨by have := q1.1; omega, q1.2⟩, by simpa using q2.2⟩

theorem trainF_append {σ : Type} (step : σ → Int × Int → σ) : ∀ (a b : List (Int × Int)) (s : σ) (f : Int × Int), (trainF step s f (a ++ b)).2 = true → ∃ f', trainF step s f (a ++ b) = trainF step (trainF step s f a).1 f' b ∧ (trainF step s f a).2 = true
  | [], b, s, f, _ => ⟨f, rfl, rfl⟩
  | g :: a, b, s, f, h => by
    have e : ∀ l, trainF step s f (g :: l) = if smallB (f.1 * g.1) (f.2 * g.2) then trainF step (step s (redN (f.1 * g.1) (f.2 * g.2), redD (f.1 * g.1) (f.2 * g.2))) (redN (f.1 * g.1) (f.2 * g.2), redD (f.1 * g.1) (f.2 * g.2)) l else (s, false) := fun _ => rfl
    rw [List.cons_append, e] at h
    rw [List.cons_append, e, e]
    by_cases hs : smallB (f.1 * g.1) (f.2 * g.2) = true
    · rw [if_pos hs] at h
      rw [if_pos hs, if_pos hs]
      exact trainF_append step a b _ _ h
    · rw [if_neg hs] at h
      cases h

theorem stepR_dvd (s : Int × Bool) (f : Int × Int) (h : (stepR s f).2 = false) : s.2 = false ∧ s.1 ∣ (stepR s f).1 := by
  unfold stepR at h ⊢
  by_cases hs : s.2 = true
  · rw [if_pos hs] at h
    rw [hs] at h
    cases h
  · have hs' : s.2 = false := by simpa using hs
    refine ⟨hs', ?_⟩
    rw [if_neg hs]
    simp only
    have h1 := Int.gcd_dvd_left s.1 f.2
    have h2 := Int.gcd_dvd_right s.1 f.2
    generalize (Int.gcd s.1 f.2 : Int) = g at *
    obtain ⟨p, hp⟩ := h1
    obtain ⟨q, hq⟩ := h2
    by_cases hg : g = 0
    · subst hg
      simp at hp hq
      simp [hp, hq]
    · have e : s.1 / g = p := Int.ediv_eq_of_eq_mul_right hg hp
      rw [e, hq]
      exact ⟨q, by rw [hp]; grind⟩
theorem trainR_dvd : ∀ (b : List (Int × Int)) (s : Int × Bool) (f : Int × Int), (trainF stepR s f b).1.2 = false → s.2 = false ∧ s.1 ∣ (trainF stepR s f b).1.1
  | [], s, f, h => ⟨h, Int.dvd_refl _⟩
  | g :: b, s, f, h => by
    unfold trainF at h ⊢
    by_cases hs : smallB (f.1 * g.1) (f.2 * g.2) = true
    · rw [if_pos hs] at h ⊢
      have ih := trainR_dvd b _ _ h
      have h1 := stepR_dvd s _ ih.1
      exact ⟨h1.1, Int.dvd_trans h1.2 ih.2⟩
    · rw [if_neg hs] at h ⊢
      exact ⟨h, Int.dvd_refl _⟩

/-- When a joined train is back, its first part is. -/
theorem returns_join {a b : List (Int × Int)} {m n : Int} (ha : returnsF a = (m, 0)) (hab : returnsF (a ++ b) = (n, 0)) : m ∣ n := by
  unfold returnsF at ha hab
  split at ha
  · rename_i h; exact absurd (congrArg Prod.snd ha) h
  split at ha
  · cases ha
  split at hab
  · rename_i h; exact absurd (congrArg Prod.snd hab) h
  split at hab
  · cases hab
  rename_i h3 h4
  have e1 : (trainR a).1.1 = m := congrArg Prod.fst ha
  have e2 : (trainR (a ++ b)).1.1 = n := congrArg Prod.fst hab
  have t1 : (trainR (a ++ b)).2 = true := by
    cases h : (trainR (a ++ b)).2 with
    | true => rfl
    | false => exact absurd (.inl h) h4
  have t2 : (trainR (a ++ b)).1.2 = false := by
    cases h : (trainR (a ++ b)).1.2 with
    | false => rfl
    | true => exact absurd (.inr h) h4
  unfold trainR at t1 t2 e1 e2
  obtain ⟨f', he, -⟩ := trainF_append stepR a b _ _ t1
  rw [he] at t2 e2
  have := (trainR_dvd b _ _ t2).2
  rw [e1, e2] at this
  exact this

end Go.Proofs.Ytoiconebcmneiab

end

section
/- The convergents of a fraction, as a plain function, and the contracts of both functions that return them. -/
namespace Go.Proofs.Ytoiconebcmneiab
open Go.RowKit

/-- The next convergent. -/
def nxt (a b : Int) (o l : Int × Int) : Int × Int := (a / b * l.1 + o.1, a / b * l.2 + o.2)
/-- The convergents from a step on. -/
def conv (a b : Int) (o l : Int × Int) : List (Int × Int) := if 0 < b then nxt a b o l :: conv b (a % b) l (nxt a b o l) else []
termination_by b.toNat
decreasing_by
  have := Int.emod_lt_of_pos a (by assumption : 0 < b)
  omega
def convs (n d : Int) : List (Int × Int) := conv n d (0, 1) (1, 0)

/-- What holds at a step of the search for the convergents of n / d. -/
structure Step (n d a b : Int) (o l : Int × Int) : Prop where
  a0 : 0 ≤ a
  b0 : 0 ≤ b
  bd : b ≤ d
  am : a ≤ 1000000000
  o1 : 0 ≤ o.1
  o2 : 0 ≤ o.2
  l1 : 0 ≤ l.1
  l2 : 0 ≤ l.2
  m1 : l.1 ≤ 1000000000
  m2 : l.2 ≤ 1000000000
  k1 : o.1 ≤ 1000000000
  k2 : o.2 ≤ 1000000000
  num : l.1 * a + o.1 * b = n
  den : l.2 * a + o.2 * b = d

theorem Step.start {n d : Int} (h1 : 0 ≤ n) (h2 : n ≤ 1000000000) (h3 : 1 ≤ d) : Step n d n d (0, 1) (1, 0) :=
  ⟨h1, by omega, Int.le_refl _, h2, by decide, by decide, by decide, by decide, by decide, by decide, by decide, by decide, by simp, by simp⟩

theorem le_mul_pos {x b : Int} (hx : 0 ≤ x) (hb : 1 ≤ b) : x ≤ x * b := by
  have := Int.mul_le_mul_of_nonneg_left hb hx
  omega

theorem Step.next {n d a b : Int} {o l : Int × Int} (h : Step n d a b o l) (hn : n ≤ 1000000000) (hd : d ≤ 1000000000) (hb : 0 < b) : Step n d b (a % b) l (nxt a b o l) ∧ 0 ≤ a / b ∧ a / b * l.1 ≤ 1000000000 ∧ a / b * l.2 ≤ 1000000000 ∧ 0 ≤ a / b * l.1 ∧ 0 ≤ a / b * l.2 ∧ a % b < b ∧ 0 ≤ a % b := by
  obtain ⟨a0, b0, bd, am, o1, o2, l1, l2, m1, m2, k1, k2, hnum, hden⟩ := h
  have q0 : 0 ≤ a / b := Int.ediv_nonneg a0 b0
  have hr0 := Int.emod_nonneg a (show b ≠ 0 by omega)
  have hr1 := Int.emod_lt_of_pos a hb
  have e := Int.mul_ediv_add_emod a b
  have p1 : 0 ≤ a / b * l.1 := Int.mul_nonneg q0 l1
  have p2 : 0 ≤ a / b * l.2 := Int.mul_nonneg q0 l2
  have r1 : 0 ≤ l.1 * (a % b) := Int.mul_nonneg l1 hr0
  have r2 : 0 ≤ l.2 * (a % b) := Int.mul_nonneg l2 hr0
  have n1 : (a / b * l.1 + o.1) * b + l.1 * (a % b) = n := by
    rw [← hnum]
    have : l.1 * a = l.1 * (b * (a / b) + a % b) := by rw [e]
    rw [this, Int.mul_add, Int.add_mul]
    have : l.1 * (b * (a / b)) = a / b * l.1 * b := by rw [Int.mul_comm b, ← Int.mul_assoc, Int.mul_comm l.1]
    omega
  have n2 : (a / b * l.2 + o.2) * b + l.2 * (a % b) = d := by
    rw [← hden]
    have : l.2 * a = l.2 * (b * (a / b) + a % b) := by rw [e]
    rw [this, Int.mul_add, Int.add_mul]
    have : l.2 * (b * (a / b)) = a / b * l.2 * b := by rw [Int.mul_comm b, ← Int.mul_assoc, Int.mul_comm l.2]
    omega
  have s1 := le_mul_pos (x := a / b * l.1 + o.1) (b := b) (by omega) (by omega)
  have s2 := le_mul_pos (x := a / b * l.2 + o.2) (b := b) (by omega) (by omega)
  refine ⟨⟨b0, hr0, by omega, by omega, l1, l2, by show 0 ≤ a / b * l.1 + o.1; omega, by show 0 ≤ a / b * l.2 + o.2; omega, by show a / b * l.1 + o.1 ≤ _; omega, by show a / b * l.2 + o.2 ≤ _; omega, m1, m2, n1, n2⟩, q0, by omega, by omega, p1, p2, hr1, hr0⟩

theorem conv_step {a b : Int} (o l : Int × Int) (hb : 0 < b) : conv a b o l = nxt a b o l :: conv b (a % b) l (nxt a b o l) := by rw [conv, if_pos hb]
theorem conv_end {a b : Int} (o l : Int × Int) (hb : ¬ 0 < b) : conv a b o l = [] := by rw [conv, if_neg hb]

def ConvPost (n d : Int) (w : World) (e : Ending) (w' : World) : Prop := Below w.heap.size w w' ∧ ∃ v, e = .returned v ∧ w'.ownsRow w.heap.size 53 2 v (convs n d).length (cells2 (convs n d))

theorem info_frac' : (Try.prog.info? 53).map (fun i => (i.zero, i.size, i.bytes)) = some (some (.agg #[.int .i64 0, .int .i64 0]), 2, 16) := by kernel_rfl


end Go.Proofs.Ytoiconebcmneiab

end
