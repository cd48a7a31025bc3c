import Derived.Test.YtoiconebcmneiabQ12
import Derived.Test.YtoiconebcmneiabQ14
import Derived.Test.YtoiconebcmneiabQ15
import Derived.Test.YtoiconebcmneiabQ3

section
/- The plain law of arms: the tree with new arms has the same names; its shares are the loads. -/
namespace Go.Proofs.Ytoiconebcmneiab
open Go.RowKit

/-- A rocker without its arms. -/
def bare (r : Rk) : Rk := { r with al := 1, ar := 1 }
theorem bare_idx (l : List Rk) (s : ByteArray) : idxOf (l.map bare) s = idxOf l s := by
  unfold idxOf; rw [List.findIdx?_map]; rfl
theorem bare_bearer (l : List Rk) (s : ByteArray) : bearerOf (l.map bare) s = bearerOf l s := by
  unfold bearerOf; rw [List.findIdx?_map]; rfl
theorem bare_borne (l : List Rk) : borneAll (l.map bare) = borneAll l := by
  unfold borneAll; rw [List.flatMap_map]; rfl
theorem bare_name (l : List Rk) (i : Nat) : ((l.map bare)[i]?).map (·.name) = (l[i]?).map (·.name) := by
  rw [List.getElem?_map, Option.map_map]; rfl
theorem bare_climbs (l : List Rk) : ∀ (f : Nat) (s : ByteArray), climbs (l.map bare) f s = climbs l f s := by
  intro f
  induction f with
  | zero => intro s; unfold climbs; rw [bare_bearer]
  | succ f ih =>
    intro s
    unfold climbs
    rw [bare_bearer]
    cases bearerOf l s with
    | none => rfl
    | some i => simp only; rw [bare_name, ih]
theorem bare_tops (l : List Rk) : topsOf (l.map bare) = topsOf l := by
  unfold topsOf topsTo
  rw [List.length_map]
  congr 1
  funext i
  unfold isTop
  rw [List.getElem?_map]
  cases l[i]? with
  | none => rfl
  | some r => simp only [Option.map_some]; rw [bare_bearer]; rfl
theorem bare_top (l : List Rk) : topName (l.map bare) = topName l := by
  unfold topName topOf; rw [bare_tops, bare_name]
theorem bare_pts (l : List Rk) : ∀ (f : Nat) (s : ByteArray), pts (l.map bare) f s = pts l f s := by
  intro f
  induction f with
  | zero => intro s; unfold pts; rw [bare_idx]
  | succ f ih =>
    intro s
    unfold pts
    rw [bare_idx]
    cases idxOf l s with
    | none => rfl
    | some i =>
      simp only
      rw [List.getElem?_map]
      cases l[i]? with
      | none => rfl
      | some r =>
        simp only [Option.map_some]
        rw [ih, ih]
        rfl

/-- Two trees with the same names. -/
def Alike (l x : List Rk) : Prop := l.map bare = x.map bare
theorem Alike.len {l x : List Rk} (h : Alike l x) : l.length = x.length := by have := congrArg List.length h; simpa using this
theorem Alike.idx {l x : List Rk} (h : Alike l x) (s : ByteArray) : idxOf x s = idxOf l s := by rw [← bare_idx, ← bare_idx l, h]
theorem Alike.pts {l x : List Rk} (h : Alike l x) (f : Nat) (s : ByteArray) : pts x f s = pts l f s := by rw [← bare_pts, ← bare_pts l, h]
theorem Alike.top {l x : List Rk} (h : Alike l x) : topName x = topName l := by rw [← bare_top, ← bare_top l, h]
theorem Alike.ptsOf {l x : List Rk} (h : Alike l x) : ptsOf x = ptsOf l := by
  unfold Proofs.Ytoiconebcmneiab.ptsOf; rw [h.pts, h.top, h.len]
theorem Alike.below {l x : List Rk} (h : Alike l x) (s : ByteArray) : below_ x s = below_ l s := by
  unfold below_; rw [h.pts, h.len]

theorem rkErr_zero {b : Bool} {r : Rk} : rkErr b r = 0 ↔ nameB r.name = true ∧ b = false ∧ nameB r.left = true ∧ nameB r.right = true ∧ withinB r.al 1 10000 = true ∧ withinB r.ar 1 10000 = true := by
  unfold rkErr
  cases nameB r.name <;> cases b <;> cases nameB r.left <;> cases nameB r.right <;> cases withinB r.al 1 10000 <;> cases withinB r.ar 1 10000 <;> simp

theorem err1_alike : ∀ (l x seen seen' : List Rk), Alike seen seen' → Alike l x → (∀ r ∈ x, withinB r.al 1 10000 = true ∧ withinB r.ar 1 10000 = true) → err1 seen l = 0 → err1 seen' x = 0
  | [], x, seen, seen', _, hx, _, _ => by
    have := hx.len
    simp at this
    obtain rfl := List.eq_nil_of_length_eq_zero this.symm
    rfl
  | r :: l, x, seen, seen', hs, hx, ha, he => by
    cases x with
    | nil => have := hx.len; simp at this
    | cons y x =>
      have h1 : bare r = bare y ∧ Alike l x := by
        unfold Alike at hx
        rw [List.map_cons, List.map_cons] at hx
        exact ⟨(List.cons.inj hx).1, (List.cons.inj hx).2⟩
      have e1 : r.name = y.name := by have := congrArg Rk.name h1.1; exact this
      have e2 : r.left = y.left := by have := congrArg Rk.left h1.1; exact this
      have e3 : r.right = y.right := by have := congrArg Rk.right h1.1; exact this
      unfold err1 at he ⊢
      have h0 : rkErr (idxM seen r.name).isSome r = 0 := by
        by_cases h : rkErr (idxM seen r.name).isSome r = 0
        · exact h
        · rw [if_neg h] at he; exact absurd he h
      rw [if_pos h0] at he
      have hi : (idxM seen' y.name).isSome = (idxM seen r.name).isSome := by unfold idxM; rw [hs.idx, e1]
      have h2 : rkErr (idxM seen' y.name).isSome y = 0 := by
        rw [hi]
        obtain ⟨g1, g2, g3, g4, g5, g6⟩ := rkErr_zero.1 h0
        obtain ⟨a1, a2⟩ := ha y (by simp)
        exact rkErr_zero.2 ⟨by rw [← e1]; exact g1, g2, by rw [← e2]; exact g3, by rw [← e3]; exact g4, a1, a2⟩
      rw [if_pos h2]
      refine err1_alike l x _ _ ?_ h1.2 (fun r hr => ha r (by simp [hr])) he
      unfold Alike at hs ⊢
      rw [List.map_append, List.map_append, hs]
      simp [h1.1]

theorem open_alike {l x : List Rk} (h : Alike l x) (ha : ArmsOK x) (h0 : openErr l = 0) : openErr x = 0 := by
  have hb : borneAll x = borneAll l := by rw [← bare_borne, ← bare_borne l, h]
  have ht : topsOf x = topsOf l := by rw [← bare_tops, ← bare_tops l, h]
  have hn : x.any (fun r => climbs x (x.length + 1) r.name) = l.any (fun r => climbs l (l.length + 1) r.name) := by
    have e : ∀ s, climbs x (x.length + 1) s = climbs l (l.length + 1) s := fun s => by rw [← bare_climbs, ← bare_climbs l, h, h.len]
    have e2 : ∀ m : List Rk, m.any (fun r => climbs l (l.length + 1) r.name) = (m.map bare).any (fun r => climbs l (l.length + 1) r.name) := fun m => by rw [List.any_map]; rfl
    rw [show (fun r : Rk => climbs x (x.length + 1) r.name) = fun r => climbs l (l.length + 1) r.name from funext fun r => e r.name, e2 x, e2 l, h]
  obtain ⟨g0, g1, g2, g3, g4, g5⟩ := open_zero h0
  have hl := h.len
  have e1 : err1 [] x = 0 := err1_alike l x [] [] rfl h (fun r hr => by
    obtain ⟨a1, a2, a3, a4⟩ := ha r hr
    exact ⟨(withinB_iff _ _ _).2 ⟨a1, a2⟩, (withinB_iff _ _ _).2 ⟨a3, a4⟩⟩) g2
  unfold openErr at h0 ⊢
  rw [hb, ht, hn, e1, ← hl]
  rw [g2] at h0
  exact h0

/-- The arms that balance two loads. -/
def armR (r : Rk) (p : Int × Int) : Rk := { r with al := redN p.2 p.1, ar := redD p.2 p.1 }
def armsTo (l : List Rk) (S : List (Int × Int)) (k : Nat) : List Rk := (List.zipWith armR l S).take k ++ l.drop k
def bigA (p : Int × Int) : Bool := decide (10000 < redN p.2 p.1) || decide (10000 < redD p.2 p.1)
theorem armsTo_len {l : List Rk} {S : List (Int × Int)} (h : S.length = l.length) (k : Nat) : (armsTo l S k).length = l.length := by
  unfold armsTo; rw [List.length_append, List.length_take, List.length_zipWith, List.length_drop]; omega
theorem armsTo_get {l : List Rk} {S : List (Int × Int)} (h : S.length = l.length) {k i : Nat} {r : Rk} (hr : l[i]? = some r) (hi : k ≤ i) : (armsTo l S k)[i]? = some r := by
  have hil := (List.getElem?_eq_some_iff.1 hr).1
  unfold armsTo
  have e : ((List.zipWith armR l S).take k).length = k := by rw [List.length_take, List.length_zipWith]; omega
  rw [List.getElem?_append_right (by omega), e, List.getElem?_drop, show k + (i - k) = i by omega, hr]
theorem armsTo_succ {l : List Rk} {S : List (Int × Int)} {k : Nat} {r : Rk} {p : Int × Int} (hr : l[k]? = some r) (hp : S[k]? = some p) : (armsTo l S k).set k (armR r p) = armsTo l S (k + 1) := by
  have hil := (List.getElem?_eq_some_iff.1 hr).1
  have hpl := (List.getElem?_eq_some_iff.1 hp).1
  have hz : (List.zipWith armR l S)[k]? = some (armR r p) := by rw [List.getElem?_zipWith, hr, hp]
  unfold armsTo
  have e : ((List.zipWith armR l S).take k).length = k := by rw [List.length_take, List.length_zipWith]; omega
  have hd : l.drop k = r :: l.drop (k + 1) := by
    have := List.drop_eq_getElem_cons hil
    rw [this]
    congr 1
    exact (List.getElem?_eq_some_iff.1 hr).2
  rw [hd, List.set_append_right _ _ (by omega), e, Nat.sub_self, List.set_cons_zero, List.take_add_one, hz, List.append_assoc]
  rfl
theorem armsTo_all {l : List Rk} {S : List (Int × Int)} (h : S.length = l.length) : armsTo l S l.length = List.zipWith armR l S := by
  unfold armsTo; rw [List.drop_length, List.append_nil, List.take_of_length_le (by rw [List.length_zipWith]; omega)]
theorem armsTo_zero (l : List Rk) (S : List (Int × Int)) : armsTo l S 0 = l := by simp [armsTo]
theorem arms_alike : ∀ (l : List Rk) (S : List (Int × Int)), S.length = l.length → Alike l (List.zipWith armR l S)
  | [], S, _ => by simp [Alike]
  | r :: l, [], h => by simp at h
  | r :: l, p :: S, h => by
    have := arms_alike l S (by simpa using h)
    unfold Alike at this ⊢
    rw [List.zipWith_cons_cons, List.map_cons, List.map_cons, this]
    rfl

theorem rkCells_set : ∀ (l : List Rk) (k : Nat) (r : Rk) (a b : Int), l[k]? = some r → ((rkCells l).set (k * 5 + 3) (.int .i64 a)).set (k * 5 + 4) (.int .i64 b) = rkCells (l.set k { r with al := a, ar := b })
  | [], k, r, a, b, h => by simp at h
  | x :: l, 0, r, a, b, h => by
    simp at h
    subst h
    simp [rkCells, Rk.cells]
  | x :: l, k + 1, r, a, b, h => by
    have ih := rkCells_set l k r a b (by simpa using h)
    have e : rkCells (x :: l) = .string x.name :: .string x.left :: .string x.right :: .int .i64 x.al :: .int .i64 x.ar :: rkCells l := rfl
    rw [List.set_cons_succ, e, show (k + 1) * 5 + 3 = k * 5 + 3 + 1 + 1 + 1 + 1 + 1 by omega, show (k + 1) * 5 + 4 = k * 5 + 4 + 1 + 1 + 1 + 1 + 1 by omega]
    simp only [List.set_cons_succ]
    rw [ih]
    rfl

/-- The errors of loads. -/
def armsErr (np : Nat) (xs : List Int) : Int := if xs.length ≠ np then 10 else if xs.any (fun z => !(withinB z 1 1000000)) then 2 else 0

theorem red_eq {a b c d : Int} (hb : 0 < b) (hd : 0 < d) (h : a * d = c * b) : redN a b = redN c d ∧ redD a b = redD c d := by
  have h1 := red_scale hd a b
  have h2 := red_scale hb c d
  have e : d * a = b * c := by rw [Int.mul_comm d a, h, Int.mul_comm]
  have e2 : d * b = b * d := Int.mul_comm _ _
  rw [e, e2] at h1
  exact ⟨h1.1.symm.trans h2.1, h1.2.1.symm.trans h2.2.1⟩

theorem red_mul {a b : Int} (hb : 0 < b) : redN a b * b = redD a b * a ∧ 0 < redD a b := by
  have hg : 0 < (Int.gcd a b : Int) := by exact_mod_cast Int.gcd_pos_of_ne_zero_right a (by omega)
  obtain ⟨p, hp⟩ := Int.gcd_dvd_left a b
  obtain ⟨q, hq⟩ := Int.gcd_dvd_right a b
  have e1 : redN a b = p := by unfold redN; exact Int.ediv_eq_of_eq_mul_right (by omega) hp
  have e2 : redD a b = q := by unfold redD; exact Int.ediv_eq_of_eq_mul_right (by omega) hq
  rw [e1, e2]
  generalize (Int.gcd a b : Int) = g at *
  refine ⟨?_, ?_⟩
  · rw [hp, hq]; grind
  · rw [hq] at hb
    rw [Int.mul_comm] at hb
    exact Int.pos_of_mul_pos_left hb hg

theorem sumF_acc_eq (g : ByteArray → Int) : ∀ (b : List ByteArray) (t : Int), b.foldl (fun t s => t + g s) t = t + b.foldl (fun t s => t + g s) 0
  | [], t => by simp
  | s :: b, t => by rw [List.foldl_cons, List.foldl_cons, sumF_acc_eq g b (t + g s), sumF_acc_eq g b (0 + g s)]; omega
theorem sumF_append (g : ByteArray → Int) (a b : List ByteArray) : sumF g (a ++ b) = sumF g a + sumF g b := by
  unfold sumF; rw [List.foldl_append, sumF_acc_eq]

theorem pts_le {l : List Rk} {f g : Nat} (h : f ≤ g) {s : ByteArray} {ps : List ByteArray} (hp : pts l f s = some ps) : pts l g s = some ps := by
  induction g with
  | zero => obtain rfl : f = 0 := by omega
            exact hp
  | succ g ih =>
    by_cases e : f = g + 1
    · rw [← e]; exact hp
    · exact pts_mono _ _ _ (ih (by omega))
theorem below_of {l : List Rk} {f : Nat} (h : f ≤ l.length) {s : ByteArray} {ps : List ByteArray} (hp : pts l f s = some ps) : below_ l s = ps := by
  unfold below_; rw [pts_le h hp]; rfl

/-- The shares of the tree with the arms that balance loads are the loads' shares. -/
theorem arms_sh {l : List Rk} {ps : List ByteArray} {xs : List Int} {T : Int} (hT : 0 < T) (hpos : ∀ (i : Nat) (r : Rk), l[i]? = some r → 1 ≤ underI l ps xs r.left ∧ 1 ≤ underI l ps xs r.right) :
    ∀ (f : Nat), f ≤ l.length → ∀ (s : ByteArray) (qs : List ByteArray) (zs : List (Int × Int)), pts l f s = some qs →
      sh (List.zipWith armR l (l.map fun r : Rk => (underI l ps xs r.left, underI l ps xs r.right))) f s (redN (underI l ps xs s) T) (redD (underI l ps xs s) T) = some zs →
      zs = qs.map fun q => (redN (loadOf ps xs q) T, redD (loadOf ps xs q) T) := by
  have hA : Alike l (List.zipWith armR l (l.map fun r : Rk => (underI l ps xs r.left, underI l ps xs r.right))) := arms_alike _ _ (by rw [List.length_map])
  have leaf : ∀ (f : Nat), f ≤ l.length → ∀ s qs, pts l f s = some qs → idxOf l s = none → qs = [s] ∧ underI l ps xs s = loadOf ps xs s := by
    intro f hf s qs hp hi
    have hq : qs = [s] := by
      cases f with
      | zero => unfold pts at hp; rw [hi] at hp; exact (Option.some.inj hp).symm
      | succ f => unfold pts at hp; rw [hi] at hp; exact (Option.some.inj hp).symm
    refine ⟨hq, ?_⟩
    unfold underI
    rw [below_of hf hp, hq]
    simp [sumF]
  intro f
  induction f with
  | zero =>
    intro hf s qs zs hp hz
    have hi : idxOf l s = none := by
      cases hi : idxOf l s with
      | none => rfl
      | some i => unfold pts at hp; rw [hi] at hp; cases hp
    obtain ⟨rfl, hu⟩ := leaf 0 hf s qs hp hi
    unfold sh at hz
    rw [← Option.some.inj hz, hu]
    rfl
  | succ f ih =>
    intro hf s qs zs hp hz
    cases hi : idxOf l s with
    | none =>
      obtain ⟨rfl, hu⟩ := leaf (f + 1) hf s qs hp hi
      unfold sh at hz
      rw [hA.idx, hi] at hz
      simp only at hz
      rw [← Option.some.inj hz, hu]
      rfl
    | some i =>
      have hp0 := hp
      unfold pts at hp
      rw [hi] at hp
      simp only at hp
      cases hr : l[i]? with
      | none => rw [hr] at hp; cases hp
      | some r =>
        rw [hr] at hp
        simp only at hp
        cases ha : pts l f r.left with
        | none => rw [ha] at hp; cases hp
        | some a =>
          cases hb : pts l f r.right with
          | none => rw [ha, hb] at hp; cases hp
          | some b =>
            rw [ha, hb] at hp
            have hqs : a ++ b = qs := Option.some.inj hp
            have hU : underI l ps xs s = underI l ps xs r.left + underI l ps xs r.right := by
              unfold underI
              rw [below_of hf hp0, below_of (by omega) ha, below_of (by omega) hb, ← hqs, sumF_append]
            obtain ⟨p1, p2⟩ := hpos i r hr
            have hx : (List.zipWith armR l (l.map fun r : Rk => (underI l ps xs r.left, underI l ps xs r.right)))[i]? = some (armR r (underI l ps xs r.left, underI l ps xs r.right)) := by
              rw [List.getElem?_zipWith, List.getElem?_map, hr]; rfl
            unfold sh at hz
            rw [hA.idx, hi] at hz
            simp only [hx] at hz
            have hjoin : ∃ z1 z2, sh (List.zipWith armR l (l.map fun r : Rk => (underI l ps xs r.left, underI l ps xs r.right))) f r.left (redN (redN (underI l ps xs s) T * redD (underI l ps xs r.right) (underI l ps xs r.left)) (redD (underI l ps xs s) T * (redN (underI l ps xs r.right) (underI l ps xs r.left) + redD (underI l ps xs r.right) (underI l ps xs r.left)))) (redD (redN (underI l ps xs s) T * redD (underI l ps xs r.right) (underI l ps xs r.left)) (redD (underI l ps xs s) T * (redN (underI l ps xs r.right) (underI l ps xs r.left) + redD (underI l ps xs r.right) (underI l ps xs r.left)))) = some z1 ∧
                sh (List.zipWith armR l (l.map fun r : Rk => (underI l ps xs r.left, underI l ps xs r.right))) f r.right (redN (redN (underI l ps xs s) T * redN (underI l ps xs r.right) (underI l ps xs r.left)) (redD (underI l ps xs s) T * (redN (underI l ps xs r.right) (underI l ps xs r.left) + redD (underI l ps xs r.right) (underI l ps xs r.left)))) (redD (redN (underI l ps xs s) T * redN (underI l ps xs r.right) (underI l ps xs r.left)) (redD (underI l ps xs s) T * (redN (underI l ps xs r.right) (underI l ps xs r.left) + redD (underI l ps xs r.right) (underI l ps xs r.left)))) = some z2 ∧ zs = z1 ++ z2 := by
              split at hz
              · unfold join2 at hz
                split at hz
                · rename_i z1 z2 e1 e2
                  exact ⟨z1, z2, e1, e2, (Option.some.inj hz).symm⟩
                · cases hz
              · cases hz
            obtain ⟨z1, z2, h1, h2, rfl⟩ := hjoin
            obtain ⟨m1, m2⟩ := red_mul (a := underI l ps xs s) hT
            obtain ⟨m3, m4⟩ := red_mul (a := underI l ps xs r.right) (b := underI l ps xs r.left) (by omega)
            have m5 : 0 < redN (underI l ps xs r.right) (underI l ps xs r.left) := by
              have : 0 < redN (underI l ps xs r.right) (underI l ps xs r.left) * underI l ps xs r.left := by rw [m3]; exact Int.mul_pos m4 (by omega)
              exact Int.pos_of_mul_pos_left this (by omega)
            rw [hU] at m1
            have hden : 0 < redD (underI l ps xs s) T * (redN (underI l ps xs r.right) (underI l ps xs r.left) + redD (underI l ps xs r.right) (underI l ps xs r.left)) := Int.mul_pos m2 (by omega)
            rw [hU] at h1 h2 hden m2
            obtain ⟨L, hL⟩ : ∃ L, underI l ps xs r.left = L := ⟨_, rfl⟩
            obtain ⟨R, hR⟩ : ∃ R, underI l ps xs r.right = R := ⟨_, rfl⟩
            rw [hL, hR] at m1 m2 m3 m4 m5 hden h1 h2
            generalize redN (L + R) T = n at *
            generalize redD (L + R) T = d at *
            generalize redN R L = al at *
            generalize redD R L = ar at *
            have q1 := red_eq (a := n * ar) (b := d * (al + ar)) (c := L) (d := T) hden hT (by grind)
            have q2 := red_eq (a := n * al) (b := d * (al + ar)) (c := R) (d := T) hden hT (by grind)
            rw [q1.1, q1.2] at h1
            rw [q2.1, q2.2, ← hR] at h2
            rw [← hL] at h1
            rw [ih (by omega) _ _ _ ha h1, ih (by omega) _ _ _ hb h2, ← hqs, List.map_append]
end Go.Proofs.Ytoiconebcmneiab

end

section
/- The class of worlds of a region whose order is left open and which stores into two cells of a block; a list of rockers with new arms. -/
namespace Go.Proofs.Ytoiconebcmneiab
open Go.RowKit

/-- Two cells of a block g are stored into, each once (operations s0, s1); all other blocks are as they were. -/
def UpB (T : TypeId) (g : Nat) (cs : Array Value) (i0 i1 : Nat) (m0 m1 : Value) (s0 s1 : Nat) (W : World) (f : Nat → Bool) (w' : World) : Prop :=
  Below g W w' ∧ (∀ b, b ≠ g → w'.heap[b]? = W.heap[b]?) ∧ Blk w' g T (if f s1 then (if f s0 then cs.setIfInBounds i0 m0 else cs).setIfInBounds i1 m1 else if f s0 then cs.setIfInBounds i0 m0 else cs)
section
variable {T : TypeId} {g : Nat} {cs : Array Value} {i0 i1 : Nat} {m0 m1 : Value} {s0 s1 k : Nat} {W w' : World} {f : Nat → Bool}
theorem UpB.start {q : Nat} (hg : Blk (W.drewN q) g T cs) (h0 : f s0 = false) (h1 : f s1 = false) : UpB T g cs i0 i1 m0 m1 s0 s1 W f (W.drewN q) :=
  ⟨below_drewN (Below.refl _ _) q, fun _ _ => rfl, by rw [h0, h1]; exact hg⟩
theorem UpB.same (h : UpB T g cs i0 i1 m0 m1 s0 s1 W f w') (k0 : k ≠ s0) (k1 : k ≠ s1) : UpB T g cs i0 i1 m0 m1 s0 s1 W (Fx.add f k) w' := by
  obtain ⟨h1, h2, h3⟩ := h
  refine ⟨h1, h2, ?_⟩
  rw [add_ne k0, add_ne k1]; exact h3
theorem UpB.store0 (h : UpB T g cs i0 i1 m0 m1 s0 s1 W f w') (hne : s0 ≠ s1) (hi : i0 ≠ i1) : UpB T g cs i0 i1 m0 m1 s0 s1 W (Fx.add f s0) (w'.setCell ⟨g, i0, none⟩ m0) := by
  obtain ⟨h1, h2, h3⟩ := h
  refine ⟨h1.setCell (p := ⟨g, i0, none⟩) (Nat.le_refl _) _, fun b hb => (Below.heap_setCell _ _ _ b hb).trans (h2 b hb), ?_⟩
  have h4 := h3.set_ i0 m0
  rw [add_ne hne, add_eq]
  refine cast ?_ h4
  congr 1
  cases f s1 <;> cases f s0
  · rfl
  · simp
  · exact Array.setIfInBounds_comm _ _ (Ne.symm hi)
  · simp only [if_true]
    rw [Array.setIfInBounds_comm _ _ (Ne.symm hi)]
    simp
theorem UpB.store1 (h : UpB T g cs i0 i1 m0 m1 s0 s1 W f w') (hne : s0 ≠ s1) : UpB T g cs i0 i1 m0 m1 s0 s1 W (Fx.add f s1) (w'.setCell ⟨g, i1, none⟩ m1) := by
  obtain ⟨h1, h2, h3⟩ := h
  refine ⟨h1.setCell (p := ⟨g, i1, none⟩) (Nat.le_refl _) _, fun b hb => (Below.heap_setCell _ _ _ b hb).trans (h2 b hb), ?_⟩
  have h4 := h3.set_ i1 m1
  rw [add_ne (Ne.symm hne), add_eq]
  refine cast ?_ h4
  congr 1
  cases f s1 <;> cases f s0 <;> simp
theorem UpB.at_ (h : UpB T g cs i0 i1 m0 m1 s0 s1 W f w') {i : Nat} (hi : i < cs.size) : (∃ u, w'.cell? ⟨g, i, none⟩ = some u) ∧ w'.frozen? ⟨g, i, none⟩ = false := by
  obtain ⟨h1, h2, h3⟩ := h
  refine ⟨?_, h3.frozen i⟩
  rw [h3.cell i]
  refine ⟨_, Array.getElem?_eq_getElem ?_⟩
  cases f s1 <;> cases f s0 <;> simpa using hi
theorem cell_block {w w' : World} {p : Addr} (h : w'.heap[p.block]? = w.heap[p.block]?) : w'.cell? p = w.cell? p := by
  unfold World.cell?; rw [h]
theorem UpB.cell (h : UpB T g cs i0 i1 m0 m1 s0 s1 W f w') {p : Addr} (hp : p.block ≠ g) : w'.cell? p = W.cell? p := cell_block (h.2.1 _ hp)
theorem UpB.end_ (h : UpB T g cs i0 i1 m0 m1 s0 s1 W f w') (h0 : f s0 = true) (h1 : f s1 = true) : Below g W w' ∧ (∀ b, b ≠ g → w'.heap[b]? = W.heap[b]?) ∧ Blk w' g T ((cs.setIfInBounds i0 m0).setIfInBounds i1 m1) := by
  obtain ⟨a, b, c⟩ := h
  rw [h0, h1] at c
  exact ⟨a, b, c⟩
end

end Go.Proofs.Ytoiconebcmneiab

end
