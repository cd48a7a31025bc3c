import Derived.Test.YtclnffpfbngjoaaQ13
import Derived.Test.YtclnffpfbngjoaaQ14

section
/- The contract of the opening of a tour. -/
namespace Go.Proofs.Ytclnffpfbngjoaa
open Go Go.RowKit

/-- A stop of a tour: the target, and where its turns and positions lie. -/
structure Stp where
  t : Tgt
  A : Option Addr
  n : Nat
  c : Nat
  A' : Option Addr
  c' : Nat
def Stp.cells (s : Stp) : List Value := s.t.cells ++ [.slice s.A s.n s.c, .slice s.A' s.n s.c']
def stpCells (l : List Stp) : List Value := l.flatMap Stp.cells
theorem stpCells_length (l : List Stp) : (stpCells l).length = l.length * 8 := by
  unfold stpCells
  induction l with
  | nil => rfl
  | cons t l ih => rw [List.flatMap_cons, List.length_append, ih, List.length_cons]; simp [Stp.cells, Tgt.cells]; omega
theorem stpCells_get (l : List Stp) : ∀ (i : Nat) (h : i < l.length) (j : Nat), j < 8 → (stpCells l)[i * 8 + j]? = (l[i]).cells[j]? := by
  unfold stpCells
  induction l with
  | nil => intro i h; exact absurd h (by simp)
  | cons t l ih =>
    intro i h j hj
    rw [List.flatMap_cons]
    have ht : t.cells.length = 8 := rfl
    cases i with
    | zero => rw [Nat.zero_mul, Nat.zero_add, List.getElem?_append_left (by omega)]; rfl
    | succ i =>
      rw [List.getElem?_append_right (by omega), ht, show (i + 1) * 8 + j - 8 = i * 8 + j by omega]
      exact ih i (by simpa using h) j hj

def turnsV (m : Mnt) (day : Int) (t : Tgt) : List Int := (turnsF m t day).1
def posV (m : Mnt) (day : Int) (t : Tgt) : List Int := posL (appF m t day).1 (turnsV m day t)
/-- The turns and the positions of a stop, in memory of their own. -/
def StpOwn (w : World) (N : Nat) (m : Mnt) (day : Int) (s : Stp) : Prop :=
  w.ownsRow N 3 1 (.slice s.A s.n s.c) s.n ((turnsV m day s.t).map (.int .i64)) ∧ w.ownsRow N 3 1 (.slice s.A' s.n s.c') s.n ((posV m day s.t).map (.int .i64))
def StpOk (w : World) (m : Mnt) (day : Int) (s : Stp) : Prop :=
  Reads w w.heap.size 1 s.A s.n ((turnsV m day s.t).map (.int .i64)) ∧ Reads w w.heap.size 1 s.A' s.n ((posV m day s.t).map (.int .i64))
/-- A right tour in memory. -/
structure TourAt (m : Mnt) (day pos : Int) (l : List Tgt) (tb : Nat) (A : Option Addr) (c : Nat) (S : List Stp) (w : World) : Prop where
  blk : Blk w tb 71 #[.int .i64 pos, .slice A l.length c]
  row : Reads w w.heap.size 8 A l.length (stpCells S)
  ts : S.map Stp.t = l
  ok : ∀ s ∈ S, StpOk w m day s
theorem TourAt.lay {m : Mnt} {day pos : Int} {l : List Tgt} {tb : Nat} {A : Option Addr} {c : Nat} {S : List Stp} {w w' : World} (h : TourAt m day pos l tb A c S w) (hb : Below w.heap.size w w') : TourAt m day pos l tb A c S w' :=
  ⟨step_blk hb h.blk, (h.row.below hb).more hb.size, h.ts, fun s hs => ⟨((h.ok s hs).1.below hb).more hb.size, ((h.ok s hs).2.below hb).more hb.size⟩⟩

def stepErr (m : Mnt) (day : Int) (l : List Tgt) (i : Nat) (t : Tgt) : Int := if nextErr (l.take i) t ≠ 0 then nextErr (l.take i) t else (turnsF m t day).2
def firstStep {α : Type} (f : Nat → α → Int) : Nat → List α → Int × Int
  | _, [] => (0, 0)
  | i, t :: r => if f i t ≠ 0 then ((i : Int), f i t) else firstStep f (i + 1) r
theorem firstStep_at {α : Type} (f : Nat → α → Int) : ∀ (l : List α) (s k : Nat), (∀ j t, j < k → l[j]? = some t → f (s + j) t = 0) → firstStep f s l = firstStep f (s + k) (l.drop k)
  | l, s, 0, _ => by simp
  | [], s, k + 1, _ => by simp [firstStep]
  | t :: r, s, k + 1, h => by
    have h0 : f s t = 0 := by have := h 0 t (by omega) rfl; simpa using this
    rw [firstStep, if_neg (by rw [h0]; simp), firstStep_at f r (s + 1) k fun j x hj hx => by have := h (j + 1) x (by omega) (by simpa using hx); rwa [show s + (j + 1) = s + 1 + j by omega] at this, List.drop_succ_cons, show s + (k + 1) = s + 1 + k by omega]
theorem firstStep_stop {α : Type} {f : Nat → α → Int} {l : List α} {k : Nat} {t : α} (h : ∀ j t, j < k → l[j]? = some t → f j t = 0) (ht : l[k]? = some t) (h0 : f k t ≠ 0) : firstStep f 0 l = ((k : Int), f k t) := by
  obtain ⟨hk, he⟩ := List.getElem?_eq_some_iff.1 ht
  rw [firstStep_at f l 0 k fun j x hj hx => by rw [Nat.zero_add]; exact h j x hj hx, List.drop_eq_getElem_cons hk, he, firstStep, Nat.zero_add, if_pos h0]
theorem firstStep_all {α : Type} {f : Nat → α → Int} {l : List α} (h : ∀ j t, j < l.length → l[j]? = some t → f j t = 0) : firstStep f 0 l = (0, 0) := by
  rw [firstStep_at f l 0 l.length fun j x hj hx => by rw [Nat.zero_add]; exact h j x hj hx, List.drop_length]; rfl
theorem firstStep_zero {α : Type} (f : Nat → α → Int) : ∀ (l : List α) (s : Nat), (firstStep f s l).2 = 0 → ∀ j t, l[j]? = some t → f (s + j) t = 0
  | [], _, _, j, t, hj => by simp at hj
  | x :: r, s, h, j, t, hj => by
    unfold firstStep at h
    by_cases h0 : f s x ≠ 0
    · rw [if_pos h0] at h; exact absurd h h0
    rw [if_neg h0] at h
    cases j with
    | zero => simp at hj; subst hj; simpa using h0
    | succ j =>
      have := firstStep_zero f r (s + 1) h j t (by simpa using hj)
      rwa [show s + 1 + j = s + (j + 1) by omega] at this
/-- The number of the first target with an error, and the error. -/
def tourF (m : Mnt) (l : List Tgt) (day pos : Int) : Int × Int :=
  if mntErr m ≠ 0 then (0, mntErr m) else if dayErr day ≠ 0 then (0, dayErr day) else if withinB pos m.ls m.ms = false then (0, 2) else if 20 < l.length then (0, 8) else firstStep (stepErr m day l) 0 l

theorem own_ne {w : World} {base base' : Nat} {e e' : TypeId} {size size' n n' : Nat} {v v' : Value} {xs xs' : List Value} (h : w.ownsRow base e size v n xs) (h' : w.ownsRow base' e' size' v' n' xs') (hne : e ≠ e') : ∀ q, v.ownBlock = some q → v'.ownBlock ≠ some q := by
  intro q hq hq'
  rcases h.2 with ⟨rfl, _⟩ | ⟨g1, cap, cur, rfl, hb, hh, _⟩
  · cases hq
  rcases h'.2 with ⟨rfl, _⟩ | ⟨g2, cap', cur', rfl, hb', hh', _⟩
  · cases hq'
  have e2 : g1 = q := by simpa [Value.ownBlock] using hq
  have e3 : g2 = q := by simpa [Value.ownBlock] using hq'
  subst e2 e3
  rw [hh] at hh'
  injection hh' with h3
  injection h3 with _ h4
  exact hne h4
theorem StpOwn.below {w w' : World} {N : Nat} {m : Mnt} {day : Int} {s : Stp} (h : StpOwn w N m day s) (hb : Below w.heap.size w w') : StpOwn w' N m day s := ⟨own_below h.1 hb (Nat.le_refl _), own_below h.2 hb (Nat.le_refl _)⟩
theorem StpOwn.ok {w : World} {N : Nat} {m : Mnt} {day : Int} {s : Stp} (h : StpOwn w N m day s) : StpOk w m day s := ⟨own_reads2 h.1, own_reads2 h.2⟩

theorem info_stop : (Try.prog.info? 73).map (fun i => (i.zero, i.size, i.bytes)) = some (some (.agg #[.string ByteArray.empty, .int .i64 0, .int .i64 0, .int .i64 0, .int .i64 0, .int .i64 0, .slice none 0 0, .slice none 0 0]), 8, 104) := by kernel_rfl

theorem As.own' {B : Nat} {e e2 : TypeId} {sz size2 n n2 : Nat} {va v2 : Value} {xs us xs2 : List Value} {sb pa st fb : Nat} {ft : TypeId} {cs : Array Value} {ix base : Nat} {W w' : World} {g : Nat → Option Pick} {f : Nat → Bool}
    (h : As B e sz va n xs us sb pa st fb ft cs ix W g f w') (ho : W.ownsRow base e2 size2 v2 n2 xs2) (hrow : W.ownsRow B e sz va n xs) (hne : e2 ≠ e) (hfb : fb < base) : w'.ownsRow base e2 size2 v2 n2 xs2 :=
  own_same ho fun q hq => h.keep q (own_lt ho hq).2 (fun e => own_ne ho hrow hne q hq e) (by have := (own_lt ho hq).1; omega)
theorem stpCells_snoc (S : List Stp) (s : Stp) : stpCells (S ++ [s]) = stpCells S ++ s.cells := by unfold stpCells; simp
theorem next_zero {before : List Tgt} {t : Tgt} (h : nextErr before t = 0) : tgtErr t = 0 ∧ before.any (sameN t.name) = false := by
  unfold nextErr at h
  by_cases h0 : tgtErr t ≠ 0
  · rw [if_pos h0] at h; exact absurd h h0
  rw [if_neg h0] at h
  refine ⟨by simpa using h0, ?_⟩
  cases hb : before.any (sameN t.name) with
  | false => rfl
  | true => rw [hb, if_pos rfl] at h; cases h

def OpenBad (i E : Int) (w : World) (e : Ending) (w' : World) : Prop := e = .returned (.tuple #[.pointer none, .int .i64 i, .int .i64 E]) ∧ Below w.heap.size w w'
def OpenOk (m : Mnt) (day pos : Int) (l : List Tgt) (w : World) (e : Ending) (w' : World) : Prop :=
  Below w.heap.size w w' ∧ ∃ tb A c S, e = .returned (.tuple #[.pointer (some ⟨tb, 0, none⟩), .int .i64 0, .int .i64 0]) ∧ TourAt m day pos l tb A c S w'
def OpenFit (m : Mnt) (day pos : Int) (l : List Tgt) (w : World) (e : Ending) (w' : World) : Prop :=
  ((tourF m l day pos).2 ≠ 0 → OpenBad (tourF m l day pos).1 (tourF m l day pos).2 w e w') ∧ ((tourF m l day pos).2 = 0 → OpenOk m day pos l w e w')
theorem OpenFit.bad {m : Mnt} {day pos : Int} {l : List Tgt} {w w' : World} {i E : Int} {e : Ending} (h : tourF m l day pos = (i, E)) (h0 : E ≠ 0) (he : e = .returned (.tuple #[.pointer none, .int .i64 i, .int .i64 E])) (hb : Below w.heap.size w w') : OpenFit m day pos l w e w' := by
  unfold OpenFit
  rw [h]
  exact ⟨fun _ => ⟨he, hb⟩, fun h => absurd h h0⟩

theorem OpenFit.good {m : Mnt} {day pos : Int} {l : List Tgt} {w w' : World} {e : Ending} (h : tourF m l day pos = (0, 0)) (ho : OpenOk m day pos l w e w') : OpenFit m day pos l w e w' := by
  unfold OpenFit
  rw [h]
  exact ⟨fun h => absurd rfl h, fun _ => ho⟩

set_option maxRecDepth 100000 in
set_option maxHeartbeats 8000000 in
theorem popen_any (m : Mnt) (day pos : Int) (l : List Tgt) (A : Option Addr) (n c : Nat) (w : World) (hx : MntAt m w) (hl : Reads w w.heap.size 6 A n (tgtCells l)) (hn : n ≤ c ∧ c ≤ 9223372036854775807) (hfit : ∀ t ∈ l, t.name.size ≤ maxLen) :
    Calls Try.prog 19 #[m.val, .slice A n c, .agg #[.int .i64 day, .int .i64 pos]] w (OpenFit m day pos l w) := by
  obtain ⟨hn, hc⟩ := hn
  have hll := hl.tlen
  have HX := Lib.hid hx
  have HL := Lib.hid hl
  have HLL := Lib.hid hll
  clear hx hl hll
  obtain ⟨e1, he1⟩ : ∃ z, mntErr m = z := ⟨_, rfl⟩
  obtain ⟨e2, he2⟩ : ∃ z, dayErr day = z := ⟨_, rfl⟩
  have H1 := Lib.hid he1
  have H2 := Lib.hid he2
  clear he1 he2
  unfold Mnt.val
  by_cases h1 : e1 = 0
  rotate_left
  · have hb : (e1 != 0) = true := by simpa using h1
    have HT : Hid (tourF m l day pos = (0, e1)) := by show _ = _; unfold tourF; rw [H1.out, if_pos h1]
    go_enter Try.func19, Try.ntmps19
    go_wp2_with fail
    refine (pmount_is m e1 H1.out _ (HX.out.lay (by repeat' (first | exact Below.refl _ _ | refine below_drewN ?_ _ | refine Below.drew ?_ | refine Below.alloc ?_ (by first | omega | (simp; done) | (simp; omega) | (simp [World.setCell]; omega)) _ | refine Below.setCell ?_ (by first | omega | (simp; done) | (simp; omega)) _)))).mono ?_
    rintro e w1 ⟨rfl, hb⟩
    have HB1 := Lib.hid (show Below w.heap.size w w1 from step_below hb (by repeat' (first | exact Below.refl _ _ | exact HB0.out | refine below_drewN ?_ _ | refine Below.drew ?_ | refine Below.alloc ?_ (by first | omega | (simp; done) | (simp; omega) | (simp [World.setCell]; omega)) _ | refine Below.setCell ?_ (by first | omega | (simp; done) | (simp; omega)) _ | assumption)))
    have K0_1 := Lib.hid (step_blk hb (show Blk _ (w.heap.size) 24 #[.int .i64 (m.ls), .int .i64 (m.ms), .int .i64 (m.lo), .int .i64 (m.hi), .int .i64 (m.sp), .slice m.A1 m.n1 m.c1, .slice m.A2 m.n2 m.c2] by repeat' (first | exact Blk.at_ _ (by first | rfl | (simp; done) | (simp; omega)) _ _ | refine Blk.drewN ?_ _ | refine Blk.drew ?_ | refine Blk.alloc ?_ _ | refine Blk.far ?_ (by first | omega | (simp; done) | (simp; omega)) _ | assumption)))
    have K1_1 := Lib.hid (step_blk hb (show Blk _ (w.heap.size + 1) 26 #[.int .i64 (day), .int .i64 (pos)] by repeat' (first | exact Blk.at_ _ (by first | rfl | (simp; done) | (simp; omega)) _ _ | refine Blk.drewN ?_ _ | refine Blk.drew ?_ | refine Blk.alloc ?_ _ | refine Blk.far ?_ (by first | omega | (simp; done) | (simp; omega)) _ | assumption)))
    have hz1 := hb.size
    try simp only [World.size_alloc, World.drewN, World.drew] at hz1
    clear hb
    have l0_1 : w.heap.size < w1.heap.size := K0_1.out.lt
    have z0_0_1 : w1.cell? ⟨w.heap.size, 0, none⟩ = some (.int .i64 (m.ls)) := K0_1.out.cell 0
    have z0_1_1 : w1.cell? ⟨w.heap.size, 1, none⟩ = some (.int .i64 (m.ms)) := K0_1.out.cell 1
    have z0_2_1 : w1.cell? ⟨w.heap.size, 2, none⟩ = some (.int .i64 (m.lo)) := K0_1.out.cell 2
    have z0_3_1 : w1.cell? ⟨w.heap.size, 3, none⟩ = some (.int .i64 (m.hi)) := K0_1.out.cell 3
    have z0_4_1 : w1.cell? ⟨w.heap.size, 4, none⟩ = some (.int .i64 (m.sp)) := K0_1.out.cell 4
    have z0_5_1 : w1.cell? ⟨w.heap.size, 5, none⟩ = some (.slice m.A1 m.n1 m.c1) := K0_1.out.cell 5
    have z0_6_1 : w1.cell? ⟨w.heap.size, 6, none⟩ = some (.slice m.A2 m.n2 m.c2) := K0_1.out.cell 6
    have l1_1 : w.heap.size + 1 < w1.heap.size := K1_1.out.lt
    have z1_0_1 : w1.cell? ⟨w.heap.size + 1, 0, none⟩ = some (.int .i64 (day)) := K1_1.out.cell 0
    have z1_1_1 : w1.cell? ⟨w.heap.size + 1, 1, none⟩ = some (.int .i64 (pos)) := K1_1.out.cell 1
    go_wp2
    go_ret3
    exact OpenFit.bad HT.out h1 rfl HB1.out
  subst h1
  by_cases h2 : e2 = 0
  rotate_left
  · have hb : (e2 != 0) = true := by simpa using h2
    have HT : Hid (tourF m l day pos = (0, e2)) := by show _ = _; unfold tourF; rw [H1.out, if_neg (by simp), H2.out, if_pos h2]
    go_enter Try.func19, Try.ntmps19
    go_wp2_with fail
    refine (pmount_is m 0 H1.out _ (HX.out.lay (by repeat' (first | exact Below.refl _ _ | refine below_drewN ?_ _ | refine Below.drew ?_ | refine Below.alloc ?_ (by first | omega | (simp; done) | (simp; omega) | (simp [World.setCell]; omega)) _ | refine Below.setCell ?_ (by first | omega | (simp; done) | (simp; omega)) _)))).mono ?_
    rintro e w1 ⟨rfl, hb⟩
    have HB1 := Lib.hid (show Below w.heap.size w w1 from step_below hb (by repeat' (first | exact Below.refl _ _ | exact HB0.out | refine below_drewN ?_ _ | refine Below.drew ?_ | refine Below.alloc ?_ (by first | omega | (simp; done) | (simp; omega) | (simp [World.setCell]; omega)) _ | refine Below.setCell ?_ (by first | omega | (simp; done) | (simp; omega)) _ | assumption)))
    have K0_1 := Lib.hid (step_blk hb (show Blk _ (w.heap.size) 24 #[.int .i64 (m.ls), .int .i64 (m.ms), .int .i64 (m.lo), .int .i64 (m.hi), .int .i64 (m.sp), .slice m.A1 m.n1 m.c1, .slice m.A2 m.n2 m.c2] by repeat' (first | exact Blk.at_ _ (by first | rfl | (simp; done) | (simp; omega)) _ _ | refine Blk.drewN ?_ _ | refine Blk.drew ?_ | refine Blk.alloc ?_ _ | refine Blk.far ?_ (by first | omega | (simp; done) | (simp; omega)) _ | assumption)))
    have K1_1 := Lib.hid (step_blk hb (show Blk _ (w.heap.size + 1) 26 #[.int .i64 (day), .int .i64 (pos)] by repeat' (first | exact Blk.at_ _ (by first | rfl | (simp; done) | (simp; omega)) _ _ | refine Blk.drewN ?_ _ | refine Blk.drew ?_ | refine Blk.alloc ?_ _ | refine Blk.far ?_ (by first | omega | (simp; done) | (simp; omega)) _ | assumption)))
    have hz1 := hb.size
    try simp only [World.size_alloc, World.drewN, World.drew] at hz1
    clear hb
    have l0_1 : w.heap.size < w1.heap.size := K0_1.out.lt
    have z0_0_1 : w1.cell? ⟨w.heap.size, 0, none⟩ = some (.int .i64 (m.ls)) := K0_1.out.cell 0
    have z0_1_1 : w1.cell? ⟨w.heap.size, 1, none⟩ = some (.int .i64 (m.ms)) := K0_1.out.cell 1
    have z0_2_1 : w1.cell? ⟨w.heap.size, 2, none⟩ = some (.int .i64 (m.lo)) := K0_1.out.cell 2
    have z0_3_1 : w1.cell? ⟨w.heap.size, 3, none⟩ = some (.int .i64 (m.hi)) := K0_1.out.cell 3
    have z0_4_1 : w1.cell? ⟨w.heap.size, 4, none⟩ = some (.int .i64 (m.sp)) := K0_1.out.cell 4
    have z0_5_1 : w1.cell? ⟨w.heap.size, 5, none⟩ = some (.slice m.A1 m.n1 m.c1) := K0_1.out.cell 5
    have z0_6_1 : w1.cell? ⟨w.heap.size, 6, none⟩ = some (.slice m.A2 m.n2 m.c2) := K0_1.out.cell 6
    have l1_1 : w.heap.size + 1 < w1.heap.size := K1_1.out.lt
    have z1_0_1 : w1.cell? ⟨w.heap.size + 1, 0, none⟩ = some (.int .i64 (day)) := K1_1.out.cell 0
    have z1_1_1 : w1.cell? ⟨w.heap.size + 1, 1, none⟩ = some (.int .i64 (pos)) := K1_1.out.cell 1
    go_wp2_with fail
    refine (checkday_is day e2 H2.out _).mono ?_
    rintro e w' ⟨rfl, rfl⟩
    go_wp2
    go_ret3
    exact OpenFit.bad HT.out h2 rfl HB1.out
  subst h2
  cases hw : withinB pos m.ls m.ms with
  | false =>
    have HW := Lib.hid hw
    have HT : Hid (tourF m l day pos = (0, 2)) := by show _ = _; unfold tourF; rw [H1.out, if_neg (by simp), H2.out, if_neg (by simp), if_pos hw]
    clear hw
    go_enter Try.func19, Try.ntmps19
    go_wp2_with fail
    refine (pmount_is m 0 H1.out _ (HX.out.lay (by repeat' (first | exact Below.refl _ _ | refine below_drewN ?_ _ | refine Below.drew ?_ | refine Below.alloc ?_ (by first | omega | (simp; done) | (simp; omega) | (simp [World.setCell]; omega)) _ | refine Below.setCell ?_ (by first | omega | (simp; done) | (simp; omega)) _)))).mono ?_
    rintro e w1 ⟨rfl, hb⟩
    have HB1 := Lib.hid (show Below w.heap.size w w1 from step_below hb (by repeat' (first | exact Below.refl _ _ | exact HB0.out | refine below_drewN ?_ _ | refine Below.drew ?_ | refine Below.alloc ?_ (by first | omega | (simp; done) | (simp; omega) | (simp [World.setCell]; omega)) _ | refine Below.setCell ?_ (by first | omega | (simp; done) | (simp; omega)) _ | assumption)))
    have K0_1 := Lib.hid (step_blk hb (show Blk _ (w.heap.size) 24 #[.int .i64 (m.ls), .int .i64 (m.ms), .int .i64 (m.lo), .int .i64 (m.hi), .int .i64 (m.sp), .slice m.A1 m.n1 m.c1, .slice m.A2 m.n2 m.c2] by repeat' (first | exact Blk.at_ _ (by first | rfl | (simp; done) | (simp; omega)) _ _ | refine Blk.drewN ?_ _ | refine Blk.drew ?_ | refine Blk.alloc ?_ _ | refine Blk.far ?_ (by first | omega | (simp; done) | (simp; omega)) _ | assumption)))
    have K1_1 := Lib.hid (step_blk hb (show Blk _ (w.heap.size + 1) 26 #[.int .i64 (day), .int .i64 (pos)] by repeat' (first | exact Blk.at_ _ (by first | rfl | (simp; done) | (simp; omega)) _ _ | refine Blk.drewN ?_ _ | refine Blk.drew ?_ | refine Blk.alloc ?_ _ | refine Blk.far ?_ (by first | omega | (simp; done) | (simp; omega)) _ | assumption)))
    have hz1 := hb.size
    try simp only [World.size_alloc, World.drewN, World.drew] at hz1
    clear hb
    have l0_1 : w.heap.size < w1.heap.size := K0_1.out.lt
    have z0_0_1 : w1.cell? ⟨w.heap.size, 0, none⟩ = some (.int .i64 (m.ls)) := K0_1.out.cell 0
    have z0_1_1 : w1.cell? ⟨w.heap.size, 1, none⟩ = some (.int .i64 (m.ms)) := K0_1.out.cell 1
    have z0_2_1 : w1.cell? ⟨w.heap.size, 2, none⟩ = some (.int .i64 (m.lo)) := K0_1.out.cell 2
    have z0_3_1 : w1.cell? ⟨w.heap.size, 3, none⟩ = some (.int .i64 (m.hi)) := K0_1.out.cell 3
    have z0_4_1 : w1.cell? ⟨w.heap.size, 4, none⟩ = some (.int .i64 (m.sp)) := K0_1.out.cell 4
    have z0_5_1 : w1.cell? ⟨w.heap.size, 5, none⟩ = some (.slice m.A1 m.n1 m.c1) := K0_1.out.cell 5
    have z0_6_1 : w1.cell? ⟨w.heap.size, 6, none⟩ = some (.slice m.A2 m.n2 m.c2) := K0_1.out.cell 6
    have l1_1 : w.heap.size + 1 < w1.heap.size := K1_1.out.lt
    have z1_0_1 : w1.cell? ⟨w.heap.size + 1, 0, none⟩ = some (.int .i64 (day)) := K1_1.out.cell 0
    have z1_1_1 : w1.cell? ⟨w.heap.size + 1, 1, none⟩ = some (.int .i64 (pos)) := K1_1.out.cell 1
    go_wp2_with fail
    refine (checkday_is day 0 H2.out _).mono ?_
    rintro e w' ⟨rfl, rfl⟩
    go_wp2_with fail
    refine (withinpt_is _ _ _ _ HW.out _).mono ?_
    rintro e w' ⟨rfl, rfl⟩
    go_wp2
    go_ret3
    exact OpenFit.bad HT.out (by decide) rfl HB1.out
  | true =>
  have HW := Lib.hid hw
  have HTF : Hid (tourF m l day pos = if 20 < l.length then (0, 8) else firstStep (stepErr m day l) 0 l) := by show _ = _; unfold tourF; rw [H1.out, if_neg (by simp), H2.out, if_neg (by simp), if_neg (by rw [hw]; simp)]
  clear hw
  by_cases h20 : 20 < n
  · have HT : Hid (tourF m l day pos = (0, 8)) := by show _ = _; rw [HTF.out, if_pos (by rw [HLL.out]; exact h20)]
    have hd : (20 : Int) < (n : Int) := by omega
    go_enter Try.func19, Try.ntmps19
    go_wp2_with fail
    refine (pmount_is m 0 H1.out _ (HX.out.lay (by repeat' (first | exact Below.refl _ _ | refine below_drewN ?_ _ | refine Below.drew ?_ | refine Below.alloc ?_ (by first | omega | (simp; done) | (simp; omega) | (simp [World.setCell]; omega)) _ | refine Below.setCell ?_ (by first | omega | (simp; done) | (simp; omega)) _)))).mono ?_
    rintro e w1 ⟨rfl, hb⟩
    have HB1 := Lib.hid (show Below w.heap.size w w1 from step_below hb (by repeat' (first | exact Below.refl _ _ | exact HB0.out | refine below_drewN ?_ _ | refine Below.drew ?_ | refine Below.alloc ?_ (by first | omega | (simp; done) | (simp; omega) | (simp [World.setCell]; omega)) _ | refine Below.setCell ?_ (by first | omega | (simp; done) | (simp; omega)) _ | assumption)))
    have K0_1 := Lib.hid (step_blk hb (show Blk _ (w.heap.size) 24 #[.int .i64 (m.ls), .int .i64 (m.ms), .int .i64 (m.lo), .int .i64 (m.hi), .int .i64 (m.sp), .slice m.A1 m.n1 m.c1, .slice m.A2 m.n2 m.c2] by repeat' (first | exact Blk.at_ _ (by first | rfl | (simp; done) | (simp; omega)) _ _ | refine Blk.drewN ?_ _ | refine Blk.drew ?_ | refine Blk.alloc ?_ _ | refine Blk.far ?_ (by first | omega | (simp; done) | (simp; omega)) _ | assumption)))
    have K1_1 := Lib.hid (step_blk hb (show Blk _ (w.heap.size + 1) 26 #[.int .i64 (day), .int .i64 (pos)] by repeat' (first | exact Blk.at_ _ (by first | rfl | (simp; done) | (simp; omega)) _ _ | refine Blk.drewN ?_ _ | refine Blk.drew ?_ | refine Blk.alloc ?_ _ | refine Blk.far ?_ (by first | omega | (simp; done) | (simp; omega)) _ | assumption)))
    have hz1 := hb.size
    try simp only [World.size_alloc, World.drewN, World.drew] at hz1
    clear hb
    have l0_1 : w.heap.size < w1.heap.size := K0_1.out.lt
    have z0_0_1 : w1.cell? ⟨w.heap.size, 0, none⟩ = some (.int .i64 (m.ls)) := K0_1.out.cell 0
    have z0_1_1 : w1.cell? ⟨w.heap.size, 1, none⟩ = some (.int .i64 (m.ms)) := K0_1.out.cell 1
    have z0_2_1 : w1.cell? ⟨w.heap.size, 2, none⟩ = some (.int .i64 (m.lo)) := K0_1.out.cell 2
    have z0_3_1 : w1.cell? ⟨w.heap.size, 3, none⟩ = some (.int .i64 (m.hi)) := K0_1.out.cell 3
    have z0_4_1 : w1.cell? ⟨w.heap.size, 4, none⟩ = some (.int .i64 (m.sp)) := K0_1.out.cell 4
    have z0_5_1 : w1.cell? ⟨w.heap.size, 5, none⟩ = some (.slice m.A1 m.n1 m.c1) := K0_1.out.cell 5
    have z0_6_1 : w1.cell? ⟨w.heap.size, 6, none⟩ = some (.slice m.A2 m.n2 m.c2) := K0_1.out.cell 6
    have l1_1 : w.heap.size + 1 < w1.heap.size := K1_1.out.lt
    have z1_0_1 : w1.cell? ⟨w.heap.size + 1, 0, none⟩ = some (.int .i64 (day)) := K1_1.out.cell 0
    have z1_1_1 : w1.cell? ⟨w.heap.size + 1, 1, none⟩ = some (.int .i64 (pos)) := K1_1.out.cell 1
    go_wp2_with fail
    refine (checkday_is day 0 H2.out _).mono ?_
    rintro e w' ⟨rfl, rfl⟩
    go_wp2_with fail
    refine (withinpt_is _ _ _ _ HW.out _).mono ?_
    rintro e w' ⟨rfl, rfl⟩
    go_wp2
    go_ret3
    exact OpenFit.bad HT.out (by decide) rfl HB1.out
  have HT : Hid (tourF m l day pos = firstStep (stepErr m day l) 0 l) := by show _ = _; rw [HTF.out, if_neg (by rw [HLL.out]; exact h20)]
  clear HTF
  go_enter Try.func19, Try.ntmps19
  go_wp2_with fail
  refine (pmount_is m 0 H1.out _ (HX.out.lay (by repeat' (first | exact Below.refl _ _ | refine below_drewN ?_ _ | refine Below.drew ?_ | refine Below.alloc ?_ (by first | omega | (simp; done) | (simp; omega) | (simp [World.setCell]; omega)) _ | refine Below.setCell ?_ (by first | omega | (simp; done) | (simp; omega)) _)))).mono ?_
  rintro e w1 ⟨rfl, hb⟩
  have HB1 := Lib.hid (show Below w.heap.size w w1 from step_below hb (by repeat' (first | exact Below.refl _ _ | exact HB0.out | refine below_drewN ?_ _ | refine Below.drew ?_ | refine Below.alloc ?_ (by first | omega | (simp; done) | (simp; omega) | (simp [World.setCell]; omega)) _ | refine Below.setCell ?_ (by first | omega | (simp; done) | (simp; omega)) _ | assumption)))
  have K0_1 := Lib.hid (step_blk hb (show Blk _ (w.heap.size) 24 #[.int .i64 (m.ls), .int .i64 (m.ms), .int .i64 (m.lo), .int .i64 (m.hi), .int .i64 (m.sp), .slice m.A1 m.n1 m.c1, .slice m.A2 m.n2 m.c2] by repeat' (first | exact Blk.at_ _ (by first | rfl | (simp; done) | (simp; omega)) _ _ | refine Blk.drewN ?_ _ | refine Blk.drew ?_ | refine Blk.alloc ?_ _ | refine Blk.far ?_ (by first | omega | (simp; done) | (simp; omega)) _ | assumption)))
  have K1_1 := Lib.hid (step_blk hb (show Blk _ (w.heap.size + 1) 26 #[.int .i64 (day), .int .i64 (pos)] by repeat' (first | exact Blk.at_ _ (by first | rfl | (simp; done) | (simp; omega)) _ _ | refine Blk.drewN ?_ _ | refine Blk.drew ?_ | refine Blk.alloc ?_ _ | refine Blk.far ?_ (by first | omega | (simp; done) | (simp; omega)) _ | assumption)))
  have hz1 := hb.size
  try simp only [World.size_alloc, World.drewN, World.drew] at hz1
  clear hb
  have l0_1 : w.heap.size < w1.heap.size := K0_1.out.lt
  have z0_0_1 : w1.cell? ⟨w.heap.size, 0, none⟩ = some (.int .i64 (m.ls)) := K0_1.out.cell 0
  have z0_1_1 : w1.cell? ⟨w.heap.size, 1, none⟩ = some (.int .i64 (m.ms)) := K0_1.out.cell 1
  have z0_2_1 : w1.cell? ⟨w.heap.size, 2, none⟩ = some (.int .i64 (m.lo)) := K0_1.out.cell 2
  have z0_3_1 : w1.cell? ⟨w.heap.size, 3, none⟩ = some (.int .i64 (m.hi)) := K0_1.out.cell 3
  have z0_4_1 : w1.cell? ⟨w.heap.size, 4, none⟩ = some (.int .i64 (m.sp)) := K0_1.out.cell 4
  have z0_5_1 : w1.cell? ⟨w.heap.size, 5, none⟩ = some (.slice m.A1 m.n1 m.c1) := K0_1.out.cell 5
  have z0_6_1 : w1.cell? ⟨w.heap.size, 6, none⟩ = some (.slice m.A2 m.n2 m.c2) := K0_1.out.cell 6
  have l1_1 : w.heap.size + 1 < w1.heap.size := K1_1.out.lt
  have z1_0_1 : w1.cell? ⟨w.heap.size + 1, 0, none⟩ = some (.int .i64 (day)) := K1_1.out.cell 0
  have z1_1_1 : w1.cell? ⟨w.heap.size + 1, 1, none⟩ = some (.int .i64 (pos)) := K1_1.out.cell 1
  go_wp2_with fail
  refine (checkday_is day 0 H2.out _).mono ?_
  rintro e w' ⟨rfl, rfl⟩
  go_wp2_with fail
  refine (withinpt_is _ _ _ _ HW.out _).mono ?_
  rintro e w' ⟨rfl, rfl⟩
  go_wp2
  generalize hwn : (w1.alloc (.cells #[.int .i64 (pos), .slice none 0 0] 71)) = w2
  have hbn : Below w1.heap.size w1 w2 := by rw [← hwn]; repeat' (first | exact Below.refl _ _ | refine below_drewN ?_ _ | refine Below.drew ?_ | refine Below.alloc ?_ (by first | omega | (simp; done) | (simp; omega) | (simp [World.setCell]; omega)) _ | refine Below.setCell ?_ (by first | omega | (simp; done) | (simp; omega)) _)
  have HB2 := Lib.hid (show Below w.heap.size w w2 from HB1.out.trans (hbn.mono HB1.out.size))
  have K0_2 := Lib.hid (step_blk hbn K0_1.out)
  have K1_2 := Lib.hid (step_blk hbn K1_1.out)
  have K2_2 := Lib.hid (show Blk w2 (w1.heap.size) 71 #[.int .i64 (pos), .slice none 0 0] by rw [← hwn]; repeat' (first | exact Blk.at_ _ (by first | rfl | (simp; done) | (simp; omega)) _ _ | refine Blk.drewN ?_ _ | refine Blk.drew ?_ | refine Blk.alloc ?_ _ | refine Blk.far ?_ (by first | omega | (simp; done) | (simp; omega)) _ | assumption))
  have HN2 := Lib.hid hbn
  have hz2 := hbn.size
  clear hwn hbn K0_1 l0_1 z0_0_1 z0_1_1 z0_2_1 z0_3_1 z0_4_1 z0_5_1 z0_6_1 K1_1 l1_1 z1_0_1 z1_1_1
  have l0_2 : w.heap.size < w2.heap.size := K0_2.out.lt
  have z0_0_2 : w2.cell? ⟨w.heap.size, 0, none⟩ = some (.int .i64 (m.ls)) := K0_2.out.cell 0
  have z0_1_2 : w2.cell? ⟨w.heap.size, 1, none⟩ = some (.int .i64 (m.ms)) := K0_2.out.cell 1
  have z0_2_2 : w2.cell? ⟨w.heap.size, 2, none⟩ = some (.int .i64 (m.lo)) := K0_2.out.cell 2
  have z0_3_2 : w2.cell? ⟨w.heap.size, 3, none⟩ = some (.int .i64 (m.hi)) := K0_2.out.cell 3
  have z0_4_2 : w2.cell? ⟨w.heap.size, 4, none⟩ = some (.int .i64 (m.sp)) := K0_2.out.cell 4
  have z0_5_2 : w2.cell? ⟨w.heap.size, 5, none⟩ = some (.slice m.A1 m.n1 m.c1) := K0_2.out.cell 5
  have z0_6_2 : w2.cell? ⟨w.heap.size, 6, none⟩ = some (.slice m.A2 m.n2 m.c2) := K0_2.out.cell 6
  have l1_2 : w.heap.size + 1 < w2.heap.size := K1_2.out.lt
  have z1_0_2 : w2.cell? ⟨w.heap.size + 1, 0, none⟩ = some (.int .i64 (day)) := K1_2.out.cell 0
  have z1_1_2 : w2.cell? ⟨w.heap.size + 1, 1, none⟩ = some (.int .i64 (pos)) := K1_2.out.cell 1
  have l2_2 : w1.heap.size < w2.heap.size := K2_2.out.lt
  have z2_0_2 : w2.cell? ⟨w1.heap.size, 0, none⟩ = some (.int .i64 (pos)) := K2_2.out.cell 0
  have z2_1_2 : w2.cell? ⟨w1.heap.size, 1, none⟩ = some (.slice none 0 0) := K2_2.out.cell 1
  have hsz1 : w1.heap.size ≤ w2.heap.size := by omega
  go_loopw [48] (fun i wr => ∃ (k : Nat) (v : Value) (S : List Stp), k ≤ n ∧ i = .int .i64 k ∧ Below w1.heap.size w2 wr ∧ w2.heap.size ≤ wr.heap.size ∧ Blk wr w1.heap.size 71 #[.int .i64 pos, v] ∧ wr.ownsRow w2.heap.size 73 8 v k (stpCells S) ∧ S.map Stp.t = l.take k ∧ (∀ s ∈ S, StpOwn wr w2.heap.size m day s) ∧ (∀ j t, j < k → l[j]? = some t → stepErr m day l j t = 0)) (fun i _ => n - (intOf i).toNat)
  case atStart => exact ⟨0, .slice none 0 0, [], by omega, rfl, Below.refl _ _, Nat.le_refl _, K2_2.out, World.ownsRow_nil _ _ _ _, by simp, by simp, fun j t hj => absurd hj (by omega)⟩
  case round =>
    obtain ⟨k, v, S, hk, rfl, hb, hsz, hkt, ho, hts, hsok, hpre⟩ := hrel
    obtain ⟨w3, hnm⟩ : ∃ z : World, z = wr := ⟨_, rfl⟩
    subst hnm
    have hk0 := Blk.below K0_2.out hb (by omega)
    have hk1 := Blk.below K1_2.out hb (by omega)
    have hb' := HB2.out.trans (hb.mono (show w.heap.size ≤ w1.heap.size by omega))
    have hrd := (HL.out.below hb').more hb'.size
    have hxm := HX.out.lay hb'
    have HBR := Lib.hid hb
    have HO := Lib.hid ho
    have HTS := Lib.hid hts
    have HSOK := Lib.hid hsok
    have HPRE := Lib.hid hpre
    have HXM := Lib.hid hxm
    have hneT : v.ownBlock ≠ some w1.heap.size := fun e => by have := (own_lt ho e).1; omega
    have hne3 : v.ownBlock ≠ some w3.heap.size := fun e => by have := (own_lt ho e).2; omega
    have HB3 := Lib.hid hb'
    have K0_3 := Lib.hid (show Blk w3 (w.heap.size) 24 #[.int .i64 (m.ls), .int .i64 (m.ms), .int .i64 (m.lo), .int .i64 (m.hi), .int .i64 (m.sp), .slice m.A1 m.n1 m.c1, .slice m.A2 m.n2 m.c2] from hk0)
    have K1_3 := Lib.hid (show Blk w3 (w.heap.size + 1) 26 #[.int .i64 (day), .int .i64 (pos)] from hk1)
    have K2_3 := Lib.hid (show Blk w3 (w1.heap.size) 71 #[.int .i64 (pos), v] from hkt)
    clear hb' hk0 hk1 hkt
    have l0_3 : w.heap.size < w3.heap.size := K0_3.out.lt
    have z0_0_3 : w3.cell? ⟨w.heap.size, 0, none⟩ = some (.int .i64 (m.ls)) := K0_3.out.cell 0
    have z0_1_3 : w3.cell? ⟨w.heap.size, 1, none⟩ = some (.int .i64 (m.ms)) := K0_3.out.cell 1
    have z0_2_3 : w3.cell? ⟨w.heap.size, 2, none⟩ = some (.int .i64 (m.lo)) := K0_3.out.cell 2
    have z0_3_3 : w3.cell? ⟨w.heap.size, 3, none⟩ = some (.int .i64 (m.hi)) := K0_3.out.cell 3
    have z0_4_3 : w3.cell? ⟨w.heap.size, 4, none⟩ = some (.int .i64 (m.sp)) := K0_3.out.cell 4
    have z0_5_3 : w3.cell? ⟨w.heap.size, 5, none⟩ = some (.slice m.A1 m.n1 m.c1) := K0_3.out.cell 5
    have z0_6_3 : w3.cell? ⟨w.heap.size, 6, none⟩ = some (.slice m.A2 m.n2 m.c2) := K0_3.out.cell 6
    have l1_3 : w.heap.size + 1 < w3.heap.size := K1_3.out.lt
    have z1_0_3 : w3.cell? ⟨w.heap.size + 1, 0, none⟩ = some (.int .i64 (day)) := K1_3.out.cell 0
    have z1_1_3 : w3.cell? ⟨w.heap.size + 1, 1, none⟩ = some (.int .i64 (pos)) := K1_3.out.cell 1
    have l2_3 : w1.heap.size < w3.heap.size := K2_3.out.lt
    have z2_0_3 : w3.cell? ⟨w1.heap.size, 0, none⟩ = some (.int .i64 (pos)) := K2_3.out.cell 0
    have z2_1_3 : w3.cell? ⟨w1.heap.size, 1, none⟩ = some (v) := K2_3.out.cell 1
    clear hb ho hts hsok hpre hxm
    by_cases hlt : k < n
    rotate_left
    · have hkn : n = k := by omega
      subst hkn
      have hz : tourF m l day pos = (0, 0) := by
        rw [HT.out]
        exact firstStep_all fun j t hj ht => HPRE.out j t (by rw [← HLL.out]; exact hj) ht
      have HZ := Lib.hid hz
      obtain ⟨A9, c9, rfl, hr9⟩ := own_reads HO.out
      have hta : TourAt m day pos l w1.heap.size A9 c9 S w3 := ⟨by rw [HLL.out]; exact K2_3.out, by rw [HLL.out]; exact hr9, by rw [HTS.out, List.take_of_length_le (by rw [HLL.out]; omega)], fun s hs => (HSOK.out s hs).ok⟩
      have HTA := Lib.hid hta
      clear hz hr9 hta hrd
      go_wp2
      go_ret3
      refine OpenFit.good HZ.out ⟨HB3.out, _, _, _, _, rfl, HTA.out⟩
    obtain ⟨xb, xo, t, rfl, hxb, ht, c0, c1, c2, c3, c4, c5⟩ := hrd.tgt hlt
    have htl := hfit t (List.mem_of_getElem? ht)
    have hrt : Reads w3 w3.heap.size 6 (some ⟨xb, xo, none⟩) k (tgtCells (l.take k)) := by rw [← tgtCells_take]; exact hrd.take_ (by omega)
    have HTT := Lib.hid ht
    clear ht hrd
    have R0_3 := Lib.hid hrt
    clear hrt
    have HA3 := Lib.hid (show Below w3.heap.size w3 w3 from Below.refl _ _)
    obtain ⟨e1, he1⟩ : ∃ z, nextErr (l.take k) t = z := ⟨_, rfl⟩
    have HE1 := Lib.hid he1
    clear he1
    have hkn : (k : Int) ≤ (c : Int) := by omega
    go_wp2
    generalize hwn : (w3.alloc (.cells #[.string t.name, .int .i64 (t.az), .int .i64 (t.ht), .int .i64 (t.fr), .int .i64 (t.to), .int .i64 (t.dw)] 62)) = w4
    have hbn : Below w3.heap.size w3 w4 := by rw [← hwn]; repeat' (first | exact Below.refl _ _ | refine below_drewN ?_ _ | refine Below.drew ?_ | refine Below.alloc ?_ (by first | omega | (simp; done) | (simp; omega) | (simp [World.setCell]; omega)) _ | refine Below.setCell ?_ (by first | omega | (simp; done) | (simp; omega)) _)
    have HB4 := Lib.hid (show Below w.heap.size w w4 from HB3.out.trans (hbn.mono HB3.out.size))
    have K0_4 := Lib.hid (step_blk hbn K0_3.out)
    have K1_4 := Lib.hid (step_blk hbn K1_3.out)
    have K2_4 := Lib.hid (step_blk hbn K2_3.out)
    have K3_4 := Lib.hid (show Blk w4 (w3.heap.size) 62 #[.string t.name, .int .i64 (t.az), .int .i64 (t.ht), .int .i64 (t.fr), .int .i64 (t.to), .int .i64 (t.dw)] by rw [← hwn]; repeat' (first | exact Blk.at_ _ (by first | rfl | (simp; done) | (simp; omega)) _ _ | refine Blk.drewN ?_ _ | refine Blk.drew ?_ | refine Blk.alloc ?_ _ | refine Blk.far ?_ (by first | omega | (simp; done) | (simp; omega)) _ | assumption))
    have R0_4 := Lib.hid ((R0_3.out.below hbn).more hbn.size)
    have HA4 := Lib.hid (step_below hbn HA3.out)
    clear HA3
    have HN4 := Lib.hid hbn
    have hz4 := hbn.size
    clear hwn hbn K0_3 l0_3 z0_0_3 z0_1_3 z0_2_3 z0_3_3 z0_4_3 z0_5_3 z0_6_3 K1_3 l1_3 z1_0_3 z1_1_3 K2_3 l2_3 z2_0_3 z2_1_3 R0_3
    have l0_4 : w.heap.size < w4.heap.size := K0_4.out.lt
    have z0_0_4 : w4.cell? ⟨w.heap.size, 0, none⟩ = some (.int .i64 (m.ls)) := K0_4.out.cell 0
    have z0_1_4 : w4.cell? ⟨w.heap.size, 1, none⟩ = some (.int .i64 (m.ms)) := K0_4.out.cell 1
    have z0_2_4 : w4.cell? ⟨w.heap.size, 2, none⟩ = some (.int .i64 (m.lo)) := K0_4.out.cell 2
    have z0_3_4 : w4.cell? ⟨w.heap.size, 3, none⟩ = some (.int .i64 (m.hi)) := K0_4.out.cell 3
    have z0_4_4 : w4.cell? ⟨w.heap.size, 4, none⟩ = some (.int .i64 (m.sp)) := K0_4.out.cell 4
    have z0_5_4 : w4.cell? ⟨w.heap.size, 5, none⟩ = some (.slice m.A1 m.n1 m.c1) := K0_4.out.cell 5
    have z0_6_4 : w4.cell? ⟨w.heap.size, 6, none⟩ = some (.slice m.A2 m.n2 m.c2) := K0_4.out.cell 6
    have l1_4 : w.heap.size + 1 < w4.heap.size := K1_4.out.lt
    have z1_0_4 : w4.cell? ⟨w.heap.size + 1, 0, none⟩ = some (.int .i64 (day)) := K1_4.out.cell 0
    have z1_1_4 : w4.cell? ⟨w.heap.size + 1, 1, none⟩ = some (.int .i64 (pos)) := K1_4.out.cell 1
    have l2_4 : w1.heap.size < w4.heap.size := K2_4.out.lt
    have z2_0_4 : w4.cell? ⟨w1.heap.size, 0, none⟩ = some (.int .i64 (pos)) := K2_4.out.cell 0
    have z2_1_4 : w4.cell? ⟨w1.heap.size, 1, none⟩ = some (v) := K2_4.out.cell 1
    have l3_4 : w3.heap.size < w4.heap.size := K3_4.out.lt
    have z3_0_4 : w4.cell? ⟨w3.heap.size, 0, none⟩ = some (.string t.name) := K3_4.out.cell 0
    have z3_1_4 : w4.cell? ⟨w3.heap.size, 1, none⟩ = some (.int .i64 (t.az)) := K3_4.out.cell 1
    have z3_2_4 : w4.cell? ⟨w3.heap.size, 2, none⟩ = some (.int .i64 (t.ht)) := K3_4.out.cell 2
    have z3_3_4 : w4.cell? ⟨w3.heap.size, 3, none⟩ = some (.int .i64 (t.fr)) := K3_4.out.cell 3
    have z3_4_4 : w4.cell? ⟨w3.heap.size, 4, none⟩ = some (.int .i64 (t.to)) := K3_4.out.cell 4
    have z3_5_4 : w4.cell? ⟨w3.heap.size, 5, none⟩ = some (.int .i64 (t.dw)) := K3_4.out.cell 5
    refine Fx.regionW (fun W f w' => Below W.heap.size W w') (by kernel_rfl) (by kernel_rfl) ?_ ?_
    · intro f hf0
      exact below_drewN (Below.refl _ _) 1
    repeat (first
      | (refine Fx.skip_ (by rfl) (fun f w h => h) ?_; simp only [Act.put, List.setIfInBounds_toArray, List.set_cons_zero, List.set_cons_succ])
      | (refine Fx.val_ ?_ (by rfl) ?_ (fun f w h => h) ?_
         rotate_left
         · intro f w' hD hk
           have hb := hD
           have kb0 := step_blk hb (show Blk _ (w.heap.size) 24 #[.int .i64 (m.ls), .int .i64 (m.ms), .int .i64 (m.lo), .int .i64 (m.hi), .int .i64 (m.sp), .slice m.A1 m.n1 m.c1, .slice m.A2 m.n2 m.c2] by repeat' (first | exact K0_4.out | exact K1_4.out | exact K2_4.out | exact K3_4.out | exact Blk.at_ _ (by first | rfl | (simp; done) | (simp; omega)) _ _ | refine Blk.drewN ?_ _ | refine Blk.drew ?_ | refine Blk.alloc ?_ _ | refine Blk.far ?_ (by first | omega | (simp; done) | (simp; omega)) _ | assumption))
           have y0_0 : w'.cell? ⟨w.heap.size, 0, none⟩ = some (.int .i64 (m.ls)) := kb0.cell 0
           have y0_1 : w'.cell? ⟨w.heap.size, 1, none⟩ = some (.int .i64 (m.ms)) := kb0.cell 1
           have y0_2 : w'.cell? ⟨w.heap.size, 2, none⟩ = some (.int .i64 (m.lo)) := kb0.cell 2
           have y0_3 : w'.cell? ⟨w.heap.size, 3, none⟩ = some (.int .i64 (m.hi)) := kb0.cell 3
           have y0_4 : w'.cell? ⟨w.heap.size, 4, none⟩ = some (.int .i64 (m.sp)) := kb0.cell 4
           have y0_5 : w'.cell? ⟨w.heap.size, 5, none⟩ = some (.slice m.A1 m.n1 m.c1) := kb0.cell 5
           have y0_6 : w'.cell? ⟨w.heap.size, 6, none⟩ = some (.slice m.A2 m.n2 m.c2) := kb0.cell 6
           have kb1 := step_blk hb (show Blk _ (w.heap.size + 1) 26 #[.int .i64 (day), .int .i64 (pos)] by repeat' (first | exact K0_4.out | exact K1_4.out | exact K2_4.out | exact K3_4.out | exact Blk.at_ _ (by first | rfl | (simp; done) | (simp; omega)) _ _ | refine Blk.drewN ?_ _ | refine Blk.drew ?_ | refine Blk.alloc ?_ _ | refine Blk.far ?_ (by first | omega | (simp; done) | (simp; omega)) _ | assumption))
           have y1_0 : w'.cell? ⟨w.heap.size + 1, 0, none⟩ = some (.int .i64 (day)) := kb1.cell 0
           have y1_1 : w'.cell? ⟨w.heap.size + 1, 1, none⟩ = some (.int .i64 (pos)) := kb1.cell 1
           have kb2 := step_blk hb (show Blk _ (w1.heap.size) 71 #[.int .i64 (pos), v] by repeat' (first | exact K0_4.out | exact K1_4.out | exact K2_4.out | exact K3_4.out | exact Blk.at_ _ (by first | rfl | (simp; done) | (simp; omega)) _ _ | refine Blk.drewN ?_ _ | refine Blk.drew ?_ | refine Blk.alloc ?_ _ | refine Blk.far ?_ (by first | omega | (simp; done) | (simp; omega)) _ | assumption))
           have y2_0 : w'.cell? ⟨w1.heap.size, 0, none⟩ = some (.int .i64 (pos)) := kb2.cell 0
           have y2_1 : w'.cell? ⟨w1.heap.size, 1, none⟩ = some (v) := kb2.cell 1
           have kb3 := step_blk hb (show Blk _ (w3.heap.size) 62 #[.string t.name, .int .i64 (t.az), .int .i64 (t.ht), .int .i64 (t.fr), .int .i64 (t.to), .int .i64 (t.dw)] by repeat' (first | exact K0_4.out | exact K1_4.out | exact K2_4.out | exact K3_4.out | exact Blk.at_ _ (by first | rfl | (simp; done) | (simp; omega)) _ _ | refine Blk.drewN ?_ _ | refine Blk.drew ?_ | refine Blk.alloc ?_ _ | refine Blk.far ?_ (by first | omega | (simp; done) | (simp; omega)) _ | assumption))
           have y3_0 : w'.cell? ⟨w3.heap.size, 0, none⟩ = some (.string t.name) := kb3.cell 0
           have y3_1 : w'.cell? ⟨w3.heap.size, 1, none⟩ = some (.int .i64 (t.az)) := kb3.cell 1
           have y3_2 : w'.cell? ⟨w3.heap.size, 2, none⟩ = some (.int .i64 (t.ht)) := kb3.cell 2
           have y3_3 : w'.cell? ⟨w3.heap.size, 3, none⟩ = some (.int .i64 (t.fr)) := kb3.cell 3
           have y3_4 : w'.cell? ⟨w3.heap.size, 4, none⟩ = some (.int .i64 (t.to)) := kb3.cell 4
           have y3_5 : w'.cell? ⟨w3.heap.size, 5, none⟩ = some (.int .i64 (t.dw)) := kb3.cell 5
           clear kb0 kb1 kb2 kb3
           clear hk hD hb
           go_simp
           try rfl
         simp only [Act.put, List.setIfInBounds_toArray, List.set_cons_zero, List.set_cons_succ]))
    refine Fx.call_ (.int .i64 e1) ?_ ?_ (by rfl) ?_ ?_ ?_
    rotate_left 2
    · intro w'
      go_simp
      refine ⟨?_, ?_⟩ <;> rfl
    · intro f w' hD hk
      exact (pnext_is (some ⟨xb, xo, none⟩) k c (l.take k) t e1 HE1.out _ ((R0_4.out.below hD).more hD.size) (by omega) htl).mono fun e w'' ⟨he, hw⟩ => ⟨he, step_below hw hD⟩
    simp only [Act.put, List.setIfInBounds_toArray, List.set_cons_zero, List.set_cons_succ]
    repeat (first
      | (refine Fx.skip_ (by rfl) (fun f w h => h) ?_; simp only [Act.put, List.setIfInBounds_toArray, List.set_cons_zero, List.set_cons_succ])
      | (refine Fx.val_ ?_ (by rfl) ?_ (fun f w h => h) ?_
         rotate_left
         · intro f w' hD hk
           have hb := hD
           have kb0 := step_blk hb (show Blk _ (w.heap.size) 24 #[.int .i64 (m.ls), .int .i64 (m.ms), .int .i64 (m.lo), .int .i64 (m.hi), .int .i64 (m.sp), .slice m.A1 m.n1 m.c1, .slice m.A2 m.n2 m.c2] by repeat' (first | exact K0_4.out | exact K1_4.out | exact K2_4.out | exact K3_4.out | exact Blk.at_ _ (by first | rfl | (simp; done) | (simp; omega)) _ _ | refine Blk.drewN ?_ _ | refine Blk.drew ?_ | refine Blk.alloc ?_ _ | refine Blk.far ?_ (by first | omega | (simp; done) | (simp; omega)) _ | assumption))
           have y0_0 : w'.cell? ⟨w.heap.size, 0, none⟩ = some (.int .i64 (m.ls)) := kb0.cell 0
           have y0_1 : w'.cell? ⟨w.heap.size, 1, none⟩ = some (.int .i64 (m.ms)) := kb0.cell 1
           have y0_2 : w'.cell? ⟨w.heap.size, 2, none⟩ = some (.int .i64 (m.lo)) := kb0.cell 2
           have y0_3 : w'.cell? ⟨w.heap.size, 3, none⟩ = some (.int .i64 (m.hi)) := kb0.cell 3
           have y0_4 : w'.cell? ⟨w.heap.size, 4, none⟩ = some (.int .i64 (m.sp)) := kb0.cell 4
           have y0_5 : w'.cell? ⟨w.heap.size, 5, none⟩ = some (.slice m.A1 m.n1 m.c1) := kb0.cell 5
           have y0_6 : w'.cell? ⟨w.heap.size, 6, none⟩ = some (.slice m.A2 m.n2 m.c2) := kb0.cell 6
           have kb1 := step_blk hb (show Blk _ (w.heap.size + 1) 26 #[.int .i64 (day), .int .i64 (pos)] by repeat' (first | exact K0_4.out | exact K1_4.out | exact K2_4.out | exact K3_4.out | exact Blk.at_ _ (by first | rfl | (simp; done) | (simp; omega)) _ _ | refine Blk.drewN ?_ _ | refine Blk.drew ?_ | refine Blk.alloc ?_ _ | refine Blk.far ?_ (by first | omega | (simp; done) | (simp; omega)) _ | assumption))
           have y1_0 : w'.cell? ⟨w.heap.size + 1, 0, none⟩ = some (.int .i64 (day)) := kb1.cell 0
           have y1_1 : w'.cell? ⟨w.heap.size + 1, 1, none⟩ = some (.int .i64 (pos)) := kb1.cell 1
           have kb2 := step_blk hb (show Blk _ (w1.heap.size) 71 #[.int .i64 (pos), v] by repeat' (first | exact K0_4.out | exact K1_4.out | exact K2_4.out | exact K3_4.out | exact Blk.at_ _ (by first | rfl | (simp; done) | (simp; omega)) _ _ | refine Blk.drewN ?_ _ | refine Blk.drew ?_ | refine Blk.alloc ?_ _ | refine Blk.far ?_ (by first | omega | (simp; done) | (simp; omega)) _ | assumption))
           have y2_0 : w'.cell? ⟨w1.heap.size, 0, none⟩ = some (.int .i64 (pos)) := kb2.cell 0
           have y2_1 : w'.cell? ⟨w1.heap.size, 1, none⟩ = some (v) := kb2.cell 1
           have kb3 := step_blk hb (show Blk _ (w3.heap.size) 62 #[.string t.name, .int .i64 (t.az), .int .i64 (t.ht), .int .i64 (t.fr), .int .i64 (t.to), .int .i64 (t.dw)] by repeat' (first | exact K0_4.out | exact K1_4.out | exact K2_4.out | exact K3_4.out | exact Blk.at_ _ (by first | rfl | (simp; done) | (simp; omega)) _ _ | refine Blk.drewN ?_ _ | refine Blk.drew ?_ | refine Blk.alloc ?_ _ | refine Blk.far ?_ (by first | omega | (simp; done) | (simp; omega)) _ | assumption))
           have y3_0 : w'.cell? ⟨w3.heap.size, 0, none⟩ = some (.string t.name) := kb3.cell 0
           have y3_1 : w'.cell? ⟨w3.heap.size, 1, none⟩ = some (.int .i64 (t.az)) := kb3.cell 1
           have y3_2 : w'.cell? ⟨w3.heap.size, 2, none⟩ = some (.int .i64 (t.ht)) := kb3.cell 2
           have y3_3 : w'.cell? ⟨w3.heap.size, 3, none⟩ = some (.int .i64 (t.fr)) := kb3.cell 3
           have y3_4 : w'.cell? ⟨w3.heap.size, 4, none⟩ = some (.int .i64 (t.to)) := kb3.cell 4
           have y3_5 : w'.cell? ⟨w3.heap.size, 5, none⟩ = some (.int .i64 (t.dw)) := kb3.cell 5
           clear kb0 kb1 kb2 kb3
           clear hk hD hb
           go_simp
           try rfl
         simp only [Act.put, List.setIfInBounds_toArray, List.set_cons_zero, List.set_cons_succ]))
    refine Fx.nil_ ?_
    intro f w5 hall hb
    try clear hall
    have HB45 := Lib.hid hb
    have HB5 := Lib.hid (show Below w.heap.size w w5 from step_below hb (by repeat' (first | exact Below.refl _ _ | exact HB4.out | refine below_drewN ?_ _ | refine Below.drew ?_ | refine Below.alloc ?_ (by first | omega | (simp; done) | (simp; omega) | (simp [World.setCell]; omega)) _ | refine Below.setCell ?_ (by first | omega | (simp; done) | (simp; omega)) _ | assumption)))
    have K0_5 := Lib.hid (step_blk hb (show Blk _ (w.heap.size) 24 #[.int .i64 (m.ls), .int .i64 (m.ms), .int .i64 (m.lo), .int .i64 (m.hi), .int .i64 (m.sp), .slice m.A1 m.n1 m.c1, .slice m.A2 m.n2 m.c2] by repeat' (first | exact K0_4.out | exact K1_4.out | exact K2_4.out | exact K3_4.out | exact Blk.at_ _ (by first | rfl | (simp; done) | (simp; omega)) _ _ | refine Blk.drewN ?_ _ | refine Blk.drew ?_ | refine Blk.alloc ?_ _ | refine Blk.far ?_ (by first | omega | (simp; done) | (simp; omega)) _ | assumption)))
    have K1_5 := Lib.hid (step_blk hb (show Blk _ (w.heap.size + 1) 26 #[.int .i64 (day), .int .i64 (pos)] by repeat' (first | exact K0_4.out | exact K1_4.out | exact K2_4.out | exact K3_4.out | exact Blk.at_ _ (by first | rfl | (simp; done) | (simp; omega)) _ _ | refine Blk.drewN ?_ _ | refine Blk.drew ?_ | refine Blk.alloc ?_ _ | refine Blk.far ?_ (by first | omega | (simp; done) | (simp; omega)) _ | assumption)))
    have K2_5 := Lib.hid (step_blk hb (show Blk _ (w1.heap.size) 71 #[.int .i64 (pos), v] by repeat' (first | exact K0_4.out | exact K1_4.out | exact K2_4.out | exact K3_4.out | exact Blk.at_ _ (by first | rfl | (simp; done) | (simp; omega)) _ _ | refine Blk.drewN ?_ _ | refine Blk.drew ?_ | refine Blk.alloc ?_ _ | refine Blk.far ?_ (by first | omega | (simp; done) | (simp; omega)) _ | assumption)))
    have K3_5 := Lib.hid (step_blk hb (show Blk _ (w3.heap.size) 62 #[.string t.name, .int .i64 (t.az), .int .i64 (t.ht), .int .i64 (t.fr), .int .i64 (t.to), .int .i64 (t.dw)] by repeat' (first | exact K0_4.out | exact K1_4.out | exact K2_4.out | exact K3_4.out | exact Blk.at_ _ (by first | rfl | (simp; done) | (simp; omega)) _ _ | refine Blk.drewN ?_ _ | refine Blk.drew ?_ | refine Blk.alloc ?_ _ | refine Blk.far ?_ (by first | omega | (simp; done) | (simp; omega)) _ | assumption)))
    have hL5 := Lib.hid (show Below w4.heap.size w4 _ from reads_mid hb (by repeat' (first | exact Below.refl _ _ | refine below_drewN ?_ _ | refine Below.drew ?_ | refine Below.alloc ?_ (by first | omega | (simp; done) | (simp; omega) | (simp [World.setCell]; omega)) _ | refine Below.setCell ?_ (by first | omega | (simp; done) | (simp; omega)) _)))
    have R0_5 := Lib.hid (reads_lay hb hL5.out R0_4.out)
    clear hL5 R0_4
    have HA5 := Lib.hid (step_below hb HA4.out)
    clear HA4
    have hz5 := hb.size
    try simp only [World.size_alloc, World.drewN, World.drew] at hz5
    clear hb K0_4 K1_4 K2_4 K3_4 z0_0_4 z0_1_4 z0_2_4 z0_3_4 z0_4_4 z0_5_4 z0_6_4 l0_4 z1_0_4 z1_1_4 l1_4 z2_0_4 z2_1_4 l2_4 z3_0_4 z3_1_4 z3_2_4 z3_3_4 z3_4_4 z3_5_4 l3_4
    have l0_5 : w.heap.size < w5.heap.size := K0_5.out.lt
    have z0_0_5 : w5.cell? ⟨w.heap.size, 0, none⟩ = some (.int .i64 (m.ls)) := K0_5.out.cell 0
    have z0_1_5 : w5.cell? ⟨w.heap.size, 1, none⟩ = some (.int .i64 (m.ms)) := K0_5.out.cell 1
    have z0_2_5 : w5.cell? ⟨w.heap.size, 2, none⟩ = some (.int .i64 (m.lo)) := K0_5.out.cell 2
    have z0_3_5 : w5.cell? ⟨w.heap.size, 3, none⟩ = some (.int .i64 (m.hi)) := K0_5.out.cell 3
    have z0_4_5 : w5.cell? ⟨w.heap.size, 4, none⟩ = some (.int .i64 (m.sp)) := K0_5.out.cell 4
    have z0_5_5 : w5.cell? ⟨w.heap.size, 5, none⟩ = some (.slice m.A1 m.n1 m.c1) := K0_5.out.cell 5
    have z0_6_5 : w5.cell? ⟨w.heap.size, 6, none⟩ = some (.slice m.A2 m.n2 m.c2) := K0_5.out.cell 6
    have l1_5 : w.heap.size + 1 < w5.heap.size := K1_5.out.lt
    have z1_0_5 : w5.cell? ⟨w.heap.size + 1, 0, none⟩ = some (.int .i64 (day)) := K1_5.out.cell 0
    have z1_1_5 : w5.cell? ⟨w.heap.size + 1, 1, none⟩ = some (.int .i64 (pos)) := K1_5.out.cell 1
    have l2_5 : w1.heap.size < w5.heap.size := K2_5.out.lt
    have z2_0_5 : w5.cell? ⟨w1.heap.size, 0, none⟩ = some (.int .i64 (pos)) := K2_5.out.cell 0
    have z2_1_5 : w5.cell? ⟨w1.heap.size, 1, none⟩ = some (v) := K2_5.out.cell 1
    have l3_5 : w3.heap.size < w5.heap.size := K3_5.out.lt
    have z3_0_5 : w5.cell? ⟨w3.heap.size, 0, none⟩ = some (.string t.name) := K3_5.out.cell 0
    have z3_1_5 : w5.cell? ⟨w3.heap.size, 1, none⟩ = some (.int .i64 (t.az)) := K3_5.out.cell 1
    have z3_2_5 : w5.cell? ⟨w3.heap.size, 2, none⟩ = some (.int .i64 (t.ht)) := K3_5.out.cell 2
    have z3_3_5 : w5.cell? ⟨w3.heap.size, 3, none⟩ = some (.int .i64 (t.fr)) := K3_5.out.cell 3
    have z3_4_5 : w5.cell? ⟨w3.heap.size, 4, none⟩ = some (.int .i64 (t.to)) := K3_5.out.cell 4
    have z3_5_5 : w5.cell? ⟨w3.heap.size, 5, none⟩ = some (.int .i64 (t.dw)) := K3_5.out.cell 5
    by_cases h1 : e1 = 0
    rotate_left
    · have hb1 : (e1 != 0) = true := by simpa using h1
      have hst : stepErr m day l k t = e1 := by unfold stepErr; rw [HE1.out, if_pos h1]
      have HF : Hid (tourF m l day pos = ((k : Int), e1)) := by show _ = _; rw [HT.out, firstStep_stop HPRE.out HTT.out (by rw [hst]; exact h1), hst]
      clear hst
      go_wp2
      go_ret3
      exact OpenFit.bad HF.out h1 rfl HB5.out
    subst h1
    obtain ⟨hte, -⟩ := next_zero HE1.out
    have HTE := Lib.hid hte
    clear hte
    obtain ⟨XY, hA⟩ : ∃ z, appF m t day = z := ⟨_, rfl⟩
    obtain ⟨X, Y⟩ := XY
    obtain ⟨LE, hLE⟩ : ∃ z, turnsAt m X Y = z := ⟨_, rfl⟩
    obtain ⟨L, E2⟩ := LE
    obtain ⟨n', hn'⟩ : ∃ z, L.length = z := ⟨_, rfl⟩
    have HAP := Lib.hid hA
    have HLE := Lib.hid hLE
    have HN' := Lib.hid hn'
    clear hA hLE hn'
    have HTF : Hid (turnsF m t day = (L, E2)) := by show _ = _; unfold turnsF; rw [HAP.out]; exact HLE.out
    go_wp2_with fail
    refine (pturns_is m t day X Y L E2 n' HAP.out HLE.out HN'.out _ (HXM.out.lay HA5.out) H1.out HTE.out H2.out).mono ?_
    rintro e w6 ⟨A1, c1', A2, c2', rfl, hb, ho1, ho2⟩
    have ho1 := own_mono ho1 (show w2.heap.size ≤ w5.heap.size by have := HA5.out.size; omega)
    have ho2 := own_mono ho2 (show w2.heap.size ≤ w5.heap.size by have := HA5.out.size; omega)
    have HO1 := Lib.hid ho1
    have HO2 := Lib.hid ho2
    clear ho1 ho2
    have HB6 := Lib.hid (show Below w.heap.size w w6 from step_below hb (by repeat' (first | exact Below.refl _ _ | exact HB5.out | refine below_drewN ?_ _ | refine Below.drew ?_ | refine Below.alloc ?_ (by first | omega | (simp; done) | (simp; omega) | (simp [World.setCell]; omega)) _ | refine Below.setCell ?_ (by first | omega | (simp; done) | (simp; omega)) _ | assumption)))
    have K0_6 := Lib.hid (step_blk hb (show Blk _ (w.heap.size) 24 #[.int .i64 (m.ls), .int .i64 (m.ms), .int .i64 (m.lo), .int .i64 (m.hi), .int .i64 (m.sp), .slice m.A1 m.n1 m.c1, .slice m.A2 m.n2 m.c2] by repeat' (first | exact K0_5.out | exact K1_5.out | exact K2_5.out | exact K3_5.out | exact Blk.at_ _ (by first | rfl | (simp; done) | (simp; omega)) _ _ | refine Blk.drewN ?_ _ | refine Blk.drew ?_ | refine Blk.alloc ?_ _ | refine Blk.far ?_ (by first | omega | (simp; done) | (simp; omega)) _ | assumption)))
    have K1_6 := Lib.hid (step_blk hb (show Blk _ (w.heap.size + 1) 26 #[.int .i64 (day), .int .i64 (pos)] by repeat' (first | exact K0_5.out | exact K1_5.out | exact K2_5.out | exact K3_5.out | exact Blk.at_ _ (by first | rfl | (simp; done) | (simp; omega)) _ _ | refine Blk.drewN ?_ _ | refine Blk.drew ?_ | refine Blk.alloc ?_ _ | refine Blk.far ?_ (by first | omega | (simp; done) | (simp; omega)) _ | assumption)))
    have K2_6 := Lib.hid (step_blk hb (show Blk _ (w1.heap.size) 71 #[.int .i64 (pos), v] by repeat' (first | exact K0_5.out | exact K1_5.out | exact K2_5.out | exact K3_5.out | exact Blk.at_ _ (by first | rfl | (simp; done) | (simp; omega)) _ _ | refine Blk.drewN ?_ _ | refine Blk.drew ?_ | refine Blk.alloc ?_ _ | refine Blk.far ?_ (by first | omega | (simp; done) | (simp; omega)) _ | assumption)))
    have K3_6 := Lib.hid (step_blk hb (show Blk _ (w3.heap.size) 62 #[.string t.name, .int .i64 (t.az), .int .i64 (t.ht), .int .i64 (t.fr), .int .i64 (t.to), .int .i64 (t.dw)] by repeat' (first | exact K0_5.out | exact K1_5.out | exact K2_5.out | exact K3_5.out | exact Blk.at_ _ (by first | rfl | (simp; done) | (simp; omega)) _ _ | refine Blk.drewN ?_ _ | refine Blk.drew ?_ | refine Blk.alloc ?_ _ | refine Blk.far ?_ (by first | omega | (simp; done) | (simp; omega)) _ | assumption)))
    have hL6 := Lib.hid (show Below w5.heap.size w5 _ from reads_mid hb (by repeat' (first | exact Below.refl _ _ | refine below_drewN ?_ _ | refine Below.drew ?_ | refine Below.alloc ?_ (by first | omega | (simp; done) | (simp; omega) | (simp [World.setCell]; omega)) _ | refine Below.setCell ?_ (by first | omega | (simp; done) | (simp; omega)) _)))
    have R0_6 := Lib.hid (reads_lay hb hL6.out R0_5.out)
    clear hL6 R0_5
    have HA6 := Lib.hid (step_below hb HA5.out)
    clear HA5
    have hz6 := hb.size
    try simp only [World.size_alloc, World.drewN, World.drew] at hz6
    clear hb K0_5 K1_5 K2_5 K3_5 z0_0_5 z0_1_5 z0_2_5 z0_3_5 z0_4_5 z0_5_5 z0_6_5 l0_5 z1_0_5 z1_1_5 l1_5 z2_0_5 z2_1_5 l2_5 z3_0_5 z3_1_5 z3_2_5 z3_3_5 z3_4_5 z3_5_5 l3_5
    have l0_6 : w.heap.size < w6.heap.size := K0_6.out.lt
    have z0_0_6 : w6.cell? ⟨w.heap.size, 0, none⟩ = some (.int .i64 (m.ls)) := K0_6.out.cell 0
    have z0_1_6 : w6.cell? ⟨w.heap.size, 1, none⟩ = some (.int .i64 (m.ms)) := K0_6.out.cell 1
    have z0_2_6 : w6.cell? ⟨w.heap.size, 2, none⟩ = some (.int .i64 (m.lo)) := K0_6.out.cell 2
    have z0_3_6 : w6.cell? ⟨w.heap.size, 3, none⟩ = some (.int .i64 (m.hi)) := K0_6.out.cell 3
    have z0_4_6 : w6.cell? ⟨w.heap.size, 4, none⟩ = some (.int .i64 (m.sp)) := K0_6.out.cell 4
    have z0_5_6 : w6.cell? ⟨w.heap.size, 5, none⟩ = some (.slice m.A1 m.n1 m.c1) := K0_6.out.cell 5
    have z0_6_6 : w6.cell? ⟨w.heap.size, 6, none⟩ = some (.slice m.A2 m.n2 m.c2) := K0_6.out.cell 6
    have l1_6 : w.heap.size + 1 < w6.heap.size := K1_6.out.lt
    have z1_0_6 : w6.cell? ⟨w.heap.size + 1, 0, none⟩ = some (.int .i64 (day)) := K1_6.out.cell 0
    have z1_1_6 : w6.cell? ⟨w.heap.size + 1, 1, none⟩ = some (.int .i64 (pos)) := K1_6.out.cell 1
    have l2_6 : w1.heap.size < w6.heap.size := K2_6.out.lt
    have z2_0_6 : w6.cell? ⟨w1.heap.size, 0, none⟩ = some (.int .i64 (pos)) := K2_6.out.cell 0
    have z2_1_6 : w6.cell? ⟨w1.heap.size, 1, none⟩ = some (v) := K2_6.out.cell 1
    have l3_6 : w3.heap.size < w6.heap.size := K3_6.out.lt
    have z3_0_6 : w6.cell? ⟨w3.heap.size, 0, none⟩ = some (.string t.name) := K3_6.out.cell 0
    have z3_1_6 : w6.cell? ⟨w3.heap.size, 1, none⟩ = some (.int .i64 (t.az)) := K3_6.out.cell 1
    have z3_2_6 : w6.cell? ⟨w3.heap.size, 2, none⟩ = some (.int .i64 (t.ht)) := K3_6.out.cell 2
    have z3_3_6 : w6.cell? ⟨w3.heap.size, 3, none⟩ = some (.int .i64 (t.fr)) := K3_6.out.cell 3
    have z3_4_6 : w6.cell? ⟨w3.heap.size, 4, none⟩ = some (.int .i64 (t.to)) := K3_6.out.cell 4
    have z3_5_6 : w6.cell? ⟨w3.heap.size, 5, none⟩ = some (.int .i64 (t.dw)) := K3_6.out.cell 5
    by_cases h2 : E2 = 0
    rotate_left
    · have hb1 : (E2 != 0) = true := by simpa using h2
      have hst : stepErr m day l k t = E2 := by unfold stepErr; rw [HE1.out, if_neg (by simp), HTF.out]
      have HF : Hid (tourF m l day pos = ((k : Int), E2)) := by show _ = _; rw [HT.out, firstStep_stop HPRE.out HTT.out (by rw [hst]; exact h2), hst]
      clear hst
      go_wp2
      go_ret3
      exact OpenFit.bad HF.out h2 rfl HB6.out
    subst h2
    have HS6 : Hid (∀ s ∈ S, StpOwn w6 w2.heap.size m day s) := fun s hs => (HSOK.out s hs).below HA6.out
    have HO6 := Lib.hid (own_below HO.out HA6.out (Nat.le_refl _))
    clear HSOK HO c0 c1 c2 c3 c4 c5
    have hsz6 : w2.heap.size ≤ w6.heap.size := by have := HA6.out.size; omega
    go_wp2
    have hownS := HO6.out
    have hblkS := K2_6.out
    have hneS := hneT
    refine Fx.regionM (fun W g f w' => As (w2.heap.size) 73 8 (v) (k) (stpCells S) [.string t.name, .int .i64 t.az, .int .i64 t.ht, .int .i64 t.fr, .int .i64 t.to, .int .i64 t.dw, .slice A1 n' c1', .slice A2 n' c2'] 9 10 13 (w1.heap.size) 71 #[.int .i64 pos, v] 1 W g f w') (fun i (x : Pick) => if i = 9 then .slice x.1 1 1 else .slice x.1 (k + 1) x.2) (by kernel_rfl) ?_ ?_
    · intro f hf0
      exact As.start hownS hblkS hneS (hf0 13) 1
    first
    | (refine Fx.WM.skip 0 (by rfl) (by kernel_rfl) (by kernel_rfl) (by kernel_rfl) (by rfl) (fun g f w h => As.same h (by decide)) ?_; simp only [Act.put, List.setIfInBounds_toArray, List.set_cons_zero, List.set_cons_succ])
    | (refine Fx.WM.val_ 0 ?_ (by rfl) (by kernel_rfl) (by kernel_rfl) (by kernel_rfl) (by rfl) ?_ (fun g f w h => As.same h (by decide)) ?_
       rotate_left
       · intro g f w' hx hD hk
         obtain has := id hD
         have y0 : w'.cell? ⟨w3.heap.size, 0, none⟩ = some (.string t.name) := (has.blk K3_6.out hne3 (by omega)).cell 0
         have y1 : w'.cell? ⟨w3.heap.size, 1, none⟩ = some (.int .i64 (t.az)) := (has.blk K3_6.out hne3 (by omega)).cell 1
         have y2 : w'.cell? ⟨w3.heap.size, 2, none⟩ = some (.int .i64 (t.ht)) := (has.blk K3_6.out hne3 (by omega)).cell 2
         have y3 : w'.cell? ⟨w3.heap.size, 3, none⟩ = some (.int .i64 (t.fr)) := (has.blk K3_6.out hne3 (by omega)).cell 3
         have y4 : w'.cell? ⟨w3.heap.size, 4, none⟩ = some (.int .i64 (t.to)) := (has.blk K3_6.out hne3 (by omega)).cell 4
         have y5 : w'.cell? ⟨w3.heap.size, 5, none⟩ = some (.int .i64 (t.dw)) := (has.blk K3_6.out hne3 (by omega)).cell 5
         clear hx hk hD has
         go_simp
         try rfl
       simp only [Act.put, List.setIfInBounds_toArray, List.set_cons_zero, List.set_cons_succ])
    first
    | (refine Fx.WM.skip 1 (by rfl) (by kernel_rfl) (by kernel_rfl) (by kernel_rfl) (by rfl) (fun g f w h => As.same h (by decide)) ?_; simp only [Act.put, List.setIfInBounds_toArray, List.set_cons_zero, List.set_cons_succ])
    | (refine Fx.WM.val_ 1 ?_ (by rfl) (by kernel_rfl) (by kernel_rfl) (by kernel_rfl) (by rfl) ?_ (fun g f w h => As.same h (by decide)) ?_
       rotate_left
       · intro g f w' hx hD hk
         obtain has := id hD
         have y0 : w'.cell? ⟨w3.heap.size, 0, none⟩ = some (.string t.name) := (has.blk K3_6.out hne3 (by omega)).cell 0
         have y1 : w'.cell? ⟨w3.heap.size, 1, none⟩ = some (.int .i64 (t.az)) := (has.blk K3_6.out hne3 (by omega)).cell 1
         have y2 : w'.cell? ⟨w3.heap.size, 2, none⟩ = some (.int .i64 (t.ht)) := (has.blk K3_6.out hne3 (by omega)).cell 2
         have y3 : w'.cell? ⟨w3.heap.size, 3, none⟩ = some (.int .i64 (t.fr)) := (has.blk K3_6.out hne3 (by omega)).cell 3
         have y4 : w'.cell? ⟨w3.heap.size, 4, none⟩ = some (.int .i64 (t.to)) := (has.blk K3_6.out hne3 (by omega)).cell 4
         have y5 : w'.cell? ⟨w3.heap.size, 5, none⟩ = some (.int .i64 (t.dw)) := (has.blk K3_6.out hne3 (by omega)).cell 5
         clear hx hk hD has
         go_simp
         try rfl
       simp only [Act.put, List.setIfInBounds_toArray, List.set_cons_zero, List.set_cons_succ])
    first
    | (refine Fx.WM.skip 2 (by rfl) (by kernel_rfl) (by kernel_rfl) (by kernel_rfl) (by rfl) (fun g f w h => As.same h (by decide)) ?_; simp only [Act.put, List.setIfInBounds_toArray, List.set_cons_zero, List.set_cons_succ])
    | (refine Fx.WM.val_ 2 ?_ (by rfl) (by kernel_rfl) (by kernel_rfl) (by kernel_rfl) (by rfl) ?_ (fun g f w h => As.same h (by decide)) ?_
       rotate_left
       · intro g f w' hx hD hk
         obtain has := id hD
         have y0 : w'.cell? ⟨w3.heap.size, 0, none⟩ = some (.string t.name) := (has.blk K3_6.out hne3 (by omega)).cell 0
         have y1 : w'.cell? ⟨w3.heap.size, 1, none⟩ = some (.int .i64 (t.az)) := (has.blk K3_6.out hne3 (by omega)).cell 1
         have y2 : w'.cell? ⟨w3.heap.size, 2, none⟩ = some (.int .i64 (t.ht)) := (has.blk K3_6.out hne3 (by omega)).cell 2
         have y3 : w'.cell? ⟨w3.heap.size, 3, none⟩ = some (.int .i64 (t.fr)) := (has.blk K3_6.out hne3 (by omega)).cell 3
         have y4 : w'.cell? ⟨w3.heap.size, 4, none⟩ = some (.int .i64 (t.to)) := (has.blk K3_6.out hne3 (by omega)).cell 4
         have y5 : w'.cell? ⟨w3.heap.size, 5, none⟩ = some (.int .i64 (t.dw)) := (has.blk K3_6.out hne3 (by omega)).cell 5
         clear hx hk hD has
         go_simp
         try rfl
       simp only [Act.put, List.setIfInBounds_toArray, List.set_cons_zero, List.set_cons_succ])
    first
    | (refine Fx.WM.skip 3 (by rfl) (by kernel_rfl) (by kernel_rfl) (by kernel_rfl) (by rfl) (fun g f w h => As.same h (by decide)) ?_; simp only [Act.put, List.setIfInBounds_toArray, List.set_cons_zero, List.set_cons_succ])
    | (refine Fx.WM.val_ 3 ?_ (by rfl) (by kernel_rfl) (by kernel_rfl) (by kernel_rfl) (by rfl) ?_ (fun g f w h => As.same h (by decide)) ?_
       rotate_left
       · intro g f w' hx hD hk
         obtain has := id hD
         have y0 : w'.cell? ⟨w3.heap.size, 0, none⟩ = some (.string t.name) := (has.blk K3_6.out hne3 (by omega)).cell 0
         have y1 : w'.cell? ⟨w3.heap.size, 1, none⟩ = some (.int .i64 (t.az)) := (has.blk K3_6.out hne3 (by omega)).cell 1
         have y2 : w'.cell? ⟨w3.heap.size, 2, none⟩ = some (.int .i64 (t.ht)) := (has.blk K3_6.out hne3 (by omega)).cell 2
         have y3 : w'.cell? ⟨w3.heap.size, 3, none⟩ = some (.int .i64 (t.fr)) := (has.blk K3_6.out hne3 (by omega)).cell 3
         have y4 : w'.cell? ⟨w3.heap.size, 4, none⟩ = some (.int .i64 (t.to)) := (has.blk K3_6.out hne3 (by omega)).cell 4
         have y5 : w'.cell? ⟨w3.heap.size, 5, none⟩ = some (.int .i64 (t.dw)) := (has.blk K3_6.out hne3 (by omega)).cell 5
         clear hx hk hD has
         go_simp
         try rfl
       simp only [Act.put, List.setIfInBounds_toArray, List.set_cons_zero, List.set_cons_succ])
    first
    | (refine Fx.WM.skip 4 (by rfl) (by kernel_rfl) (by kernel_rfl) (by kernel_rfl) (by rfl) (fun g f w h => As.same h (by decide)) ?_; simp only [Act.put, List.setIfInBounds_toArray, List.set_cons_zero, List.set_cons_succ])
    | (refine Fx.WM.val_ 4 ?_ (by rfl) (by kernel_rfl) (by kernel_rfl) (by kernel_rfl) (by rfl) ?_ (fun g f w h => As.same h (by decide)) ?_
       rotate_left
       · intro g f w' hx hD hk
         obtain has := id hD
         have hst := (hk.un 13 10 (by kernel_rfl) (hk.2.1 10 (by kernel_rfl)))
         have qf := (has.cell hst 1).1
         have y0 : w'.cell? ⟨w3.heap.size, 0, none⟩ = some (.string t.name) := (has.blk K3_6.out hne3 (by omega)).cell 0
         have y1 : w'.cell? ⟨w3.heap.size, 1, none⟩ = some (.int .i64 (t.az)) := (has.blk K3_6.out hne3 (by omega)).cell 1
         have y2 : w'.cell? ⟨w3.heap.size, 2, none⟩ = some (.int .i64 (t.ht)) := (has.blk K3_6.out hne3 (by omega)).cell 2
         have y3 : w'.cell? ⟨w3.heap.size, 3, none⟩ = some (.int .i64 (t.fr)) := (has.blk K3_6.out hne3 (by omega)).cell 3
         have y4 : w'.cell? ⟨w3.heap.size, 4, none⟩ = some (.int .i64 (t.to)) := (has.blk K3_6.out hne3 (by omega)).cell 4
         have y5 : w'.cell? ⟨w3.heap.size, 5, none⟩ = some (.int .i64 (t.dw)) := (has.blk K3_6.out hne3 (by omega)).cell 5
         clear hx hk hD has hst
         go_simp
         try rfl
       simp only [Act.put, List.setIfInBounds_toArray, List.set_cons_zero, List.set_cons_succ])
    first
    | (refine Fx.WM.skip 5 (by rfl) (by kernel_rfl) (by kernel_rfl) (by kernel_rfl) (by rfl) (fun g f w h => As.same h (by decide)) ?_; simp only [Act.put, List.setIfInBounds_toArray, List.set_cons_zero, List.set_cons_succ])
    | (refine Fx.WM.val_ 5 ?_ (by rfl) (by kernel_rfl) (by kernel_rfl) (by kernel_rfl) (by rfl) ?_ (fun g f w h => As.same h (by decide)) ?_
       rotate_left
       · intro g f w' hx hD hk
         obtain has := id hD
         have y0 : w'.cell? ⟨w3.heap.size, 0, none⟩ = some (.string t.name) := (has.blk K3_6.out hne3 (by omega)).cell 0
         have y1 : w'.cell? ⟨w3.heap.size, 1, none⟩ = some (.int .i64 (t.az)) := (has.blk K3_6.out hne3 (by omega)).cell 1
         have y2 : w'.cell? ⟨w3.heap.size, 2, none⟩ = some (.int .i64 (t.ht)) := (has.blk K3_6.out hne3 (by omega)).cell 2
         have y3 : w'.cell? ⟨w3.heap.size, 3, none⟩ = some (.int .i64 (t.fr)) := (has.blk K3_6.out hne3 (by omega)).cell 3
         have y4 : w'.cell? ⟨w3.heap.size, 4, none⟩ = some (.int .i64 (t.to)) := (has.blk K3_6.out hne3 (by omega)).cell 4
         have y5 : w'.cell? ⟨w3.heap.size, 5, none⟩ = some (.int .i64 (t.dw)) := (has.blk K3_6.out hne3 (by omega)).cell 5
         clear hx hk hD has
         go_simp
         try rfl
       simp only [Act.put, List.setIfInBounds_toArray, List.set_cons_zero, List.set_cons_succ])
    first
    | (refine Fx.WM.skip 6 (by rfl) (by kernel_rfl) (by kernel_rfl) (by kernel_rfl) (by rfl) (fun g f w h => As.same h (by decide)) ?_; simp only [Act.put, List.setIfInBounds_toArray, List.set_cons_zero, List.set_cons_succ])
    | (refine Fx.WM.val_ 6 ?_ (by rfl) (by kernel_rfl) (by kernel_rfl) (by kernel_rfl) (by rfl) ?_ (fun g f w h => As.same h (by decide)) ?_
       rotate_left
       · intro g f w' hx hD hk
         obtain has := id hD
         have y0 : w'.cell? ⟨w3.heap.size, 0, none⟩ = some (.string t.name) := (has.blk K3_6.out hne3 (by omega)).cell 0
         have y1 : w'.cell? ⟨w3.heap.size, 1, none⟩ = some (.int .i64 (t.az)) := (has.blk K3_6.out hne3 (by omega)).cell 1
         have y2 : w'.cell? ⟨w3.heap.size, 2, none⟩ = some (.int .i64 (t.ht)) := (has.blk K3_6.out hne3 (by omega)).cell 2
         have y3 : w'.cell? ⟨w3.heap.size, 3, none⟩ = some (.int .i64 (t.fr)) := (has.blk K3_6.out hne3 (by omega)).cell 3
         have y4 : w'.cell? ⟨w3.heap.size, 4, none⟩ = some (.int .i64 (t.to)) := (has.blk K3_6.out hne3 (by omega)).cell 4
         have y5 : w'.cell? ⟨w3.heap.size, 5, none⟩ = some (.int .i64 (t.dw)) := (has.blk K3_6.out hne3 (by omega)).cell 5
         clear hx hk hD has
         go_simp
         try rfl
       simp only [Act.put, List.setIfInBounds_toArray, List.set_cons_zero, List.set_cons_succ])
    first
    | (refine Fx.WM.skip 7 (by rfl) (by kernel_rfl) (by kernel_rfl) (by kernel_rfl) (by rfl) (fun g f w h => As.same h (by decide)) ?_; simp only [Act.put, List.setIfInBounds_toArray, List.set_cons_zero, List.set_cons_succ])
    | (refine Fx.WM.val_ 7 ?_ (by rfl) (by kernel_rfl) (by kernel_rfl) (by kernel_rfl) (by rfl) ?_ (fun g f w h => As.same h (by decide)) ?_
       rotate_left
       · intro g f w' hx hD hk
         obtain has := id hD
         have y0 : w'.cell? ⟨w3.heap.size, 0, none⟩ = some (.string t.name) := (has.blk K3_6.out hne3 (by omega)).cell 0
         have y1 : w'.cell? ⟨w3.heap.size, 1, none⟩ = some (.int .i64 (t.az)) := (has.blk K3_6.out hne3 (by omega)).cell 1
         have y2 : w'.cell? ⟨w3.heap.size, 2, none⟩ = some (.int .i64 (t.ht)) := (has.blk K3_6.out hne3 (by omega)).cell 2
         have y3 : w'.cell? ⟨w3.heap.size, 3, none⟩ = some (.int .i64 (t.fr)) := (has.blk K3_6.out hne3 (by omega)).cell 3
         have y4 : w'.cell? ⟨w3.heap.size, 4, none⟩ = some (.int .i64 (t.to)) := (has.blk K3_6.out hne3 (by omega)).cell 4
         have y5 : w'.cell? ⟨w3.heap.size, 5, none⟩ = some (.int .i64 (t.dw)) := (has.blk K3_6.out hne3 (by omega)).cell 5
         clear hx hk hD has
         go_simp
         try rfl
       simp only [Act.put, List.setIfInBounds_toArray, List.set_cons_zero, List.set_cons_succ])
    first
    | (refine Fx.WM.skip 8 (by rfl) (by kernel_rfl) (by kernel_rfl) (by kernel_rfl) (by rfl) (fun g f w h => As.same h (by decide)) ?_; simp only [Act.put, List.setIfInBounds_toArray, List.set_cons_zero, List.set_cons_succ])
    | (refine Fx.WM.val_ 8 ?_ (by rfl) (by kernel_rfl) (by kernel_rfl) (by kernel_rfl) (by rfl) ?_ (fun g f w h => As.same h (by decide)) ?_
       rotate_left
       · intro g f w' hx hD hk
         obtain has := id hD
         have y0 : w'.cell? ⟨w3.heap.size, 0, none⟩ = some (.string t.name) := (has.blk K3_6.out hne3 (by omega)).cell 0
         have y1 : w'.cell? ⟨w3.heap.size, 1, none⟩ = some (.int .i64 (t.az)) := (has.blk K3_6.out hne3 (by omega)).cell 1
         have y2 : w'.cell? ⟨w3.heap.size, 2, none⟩ = some (.int .i64 (t.ht)) := (has.blk K3_6.out hne3 (by omega)).cell 2
         have y3 : w'.cell? ⟨w3.heap.size, 3, none⟩ = some (.int .i64 (t.fr)) := (has.blk K3_6.out hne3 (by omega)).cell 3
         have y4 : w'.cell? ⟨w3.heap.size, 4, none⟩ = some (.int .i64 (t.to)) := (has.blk K3_6.out hne3 (by omega)).cell 4
         have y5 : w'.cell? ⟨w3.heap.size, 5, none⟩ = some (.int .i64 (t.dw)) := (has.blk K3_6.out hne3 (by omega)).cell 5
         clear hx hk hD has
         go_simp
         try rfl
       simp only [Act.put, List.setIfInBounds_toArray, List.set_cons_zero, List.set_cons_succ])
    refine Fx.WM.choose 9 (by rfl) (by kernel_rfl) (by rfl) ?_ ?_
    · skip
      refine Fx.Chooses.make (by rfl) ?_
      intro f w' hD hk
      refine ⟨(some ⟨w'.heap.size, 0, none⟩, 0), w'.alloc (.cells #[.string t.name, .int .i64 t.az, .int .i64 t.ht, .int .i64 t.fr, .int .i64 t.to, .int .i64 t.dw, .slice A1 n' c1', .slice A2 n' c2'] 73), ?_, ?_⟩
      · clear hk hD
        go_simp
        try rfl
      · exact As.mk_lit hD (by decide) (by decide)
    intro x
    simp only [Act.put, List.setIfInBounds_toArray, List.set_cons_zero, List.set_cons_succ]
    refine Fx.WM.choose 10 (by rfl) (by kernel_rfl) (by rfl) ?_ ?_
    · skip
      refine Fx.Chooses.make (by rfl) ?_
      intro f w' hD hk
      obtain ⟨y', w2', hrun, hD2⟩ := As.app (P := Try.prog) (c := 1) hD Try.underlying69 info_stop rfl (by omega) (by simp [Value.oneCell']) rfl (hsz6) (by unfold maxLen; omega) (by omega) (x := x) (by rfl) (by rfl) (by decide) (by decide) (hk.2.1 13 (by kernel_rfl))
      exact ⟨y', w2', exec_append _ _ _ rfl hrun, hD2⟩
    intro y
    simp only [Act.put, List.setIfInBounds_toArray, List.set_cons_zero, List.set_cons_succ]
    first
    | (refine Fx.WM.skip 11 (by rfl) (by kernel_rfl) (by kernel_rfl) (by kernel_rfl) (by rfl) (fun g f w h => As.same h (by decide)) ?_; simp only [Act.put, List.setIfInBounds_toArray, List.set_cons_zero, List.set_cons_succ])
    | (refine Fx.WM.val_ 11 ?_ (by rfl) (by kernel_rfl) (by kernel_rfl) (by kernel_rfl) (by rfl) ?_ (fun g f w h => As.same h (by decide)) ?_
       rotate_left
       · intro g f w' hx hD hk
         obtain has := id hD
         have y0 : w'.cell? ⟨w3.heap.size, 0, none⟩ = some (.string t.name) := (has.blk K3_6.out hne3 (by omega)).cell 0
         have y1 : w'.cell? ⟨w3.heap.size, 1, none⟩ = some (.int .i64 (t.az)) := (has.blk K3_6.out hne3 (by omega)).cell 1
         have y2 : w'.cell? ⟨w3.heap.size, 2, none⟩ = some (.int .i64 (t.ht)) := (has.blk K3_6.out hne3 (by omega)).cell 2
         have y3 : w'.cell? ⟨w3.heap.size, 3, none⟩ = some (.int .i64 (t.fr)) := (has.blk K3_6.out hne3 (by omega)).cell 3
         have y4 : w'.cell? ⟨w3.heap.size, 4, none⟩ = some (.int .i64 (t.to)) := (has.blk K3_6.out hne3 (by omega)).cell 4
         have y5 : w'.cell? ⟨w3.heap.size, 5, none⟩ = some (.int .i64 (t.dw)) := (has.blk K3_6.out hne3 (by omega)).cell 5
         clear hx hk hD has
         go_simp
         try rfl
       simp only [Act.put, List.setIfInBounds_toArray, List.set_cons_zero, List.set_cons_succ])
    first
    | (refine Fx.WM.skip 12 (by rfl) (by kernel_rfl) (by kernel_rfl) (by kernel_rfl) (by rfl) (fun g f w h => As.same h (by decide)) ?_; simp only [Act.put, List.setIfInBounds_toArray, List.set_cons_zero, List.set_cons_succ])
    | (refine Fx.WM.val_ 12 ?_ (by rfl) (by kernel_rfl) (by kernel_rfl) (by kernel_rfl) (by rfl) ?_ (fun g f w h => As.same h (by decide)) ?_
       rotate_left
       · intro g f w' hx hD hk
         obtain has := id hD
         have y0 : w'.cell? ⟨w3.heap.size, 0, none⟩ = some (.string t.name) := (has.blk K3_6.out hne3 (by omega)).cell 0
         have y1 : w'.cell? ⟨w3.heap.size, 1, none⟩ = some (.int .i64 (t.az)) := (has.blk K3_6.out hne3 (by omega)).cell 1
         have y2 : w'.cell? ⟨w3.heap.size, 2, none⟩ = some (.int .i64 (t.ht)) := (has.blk K3_6.out hne3 (by omega)).cell 2
         have y3 : w'.cell? ⟨w3.heap.size, 3, none⟩ = some (.int .i64 (t.fr)) := (has.blk K3_6.out hne3 (by omega)).cell 3
         have y4 : w'.cell? ⟨w3.heap.size, 4, none⟩ = some (.int .i64 (t.to)) := (has.blk K3_6.out hne3 (by omega)).cell 4
         have y5 : w'.cell? ⟨w3.heap.size, 5, none⟩ = some (.int .i64 (t.dw)) := (has.blk K3_6.out hne3 (by omega)).cell 5
         clear hx hk hD has
         go_simp
         try rfl
       simp only [Act.put, List.setIfInBounds_toArray, List.set_cons_zero, List.set_cons_succ])
    refine Fx.WM.eff 13 undef (by rfl) (by kernel_rfl) (by kernel_rfl) (by kernel_rfl) (by rfl) ?_ ?_
    · intro g f w' hx hD hk
      have hst : f 13 = false := hk.1
      obtain ⟨qf, pf⟩ := As.cell hD hst 1
      refine Fx.gives_skip (w' := (w'.setCell ⟨w1.heap.size, 1, none⟩ (.slice y.1 (k + 1) y.2))) ?_ ?_
      · clear hx hk hD hst
        go_simp
        try rfl
      · exact As.store hD (hx 10 _ (by rfl)) hk.1
    simp only [Act.put, List.setIfInBounds_toArray, List.set_cons_zero, List.set_cons_succ]
    refine Fx.WM.nil (by kernel_rfl) ?_
    intro w7 has
    obtain ⟨hoA, hfb⟩ := As.ends has (y := y) (by rfl) (by rfl)
    have hb7 : Below w1.heap.size w2 w7 := (HBR.out.trans (HA6.out.mono (Nat.le_trans hsz1 hsz))).trans (has.below (fun q hq => by have := (own_lt HO6.out hq).1; omega) (Nat.le_refl _) (by omega))
    have hs7 : ∀ s ∈ S ++ [(⟨t, A1, n', c1', A2, c2'⟩ : Stp)], StpOwn w7 w2.heap.size m day s := by
      intro s hs
      have hs6 : StpOwn w6 w2.heap.size m day s := by
        rcases List.mem_append.1 hs with h | h
        · exact HS6.out s h
        · obtain rfl : s = ⟨t, A1, n', c1', A2, c2'⟩ := by simpa using h
          unfold StpOwn posV turnsV
          simp only
          rw [HTF.out, HAP.out]
          exact ⟨HO1.out, HO2.out⟩
      exact ⟨has.own' hs6.1 HO6.out (by decide) (by omega), has.own' hs6.2 HO6.out (by decide) (by omega)⟩
    have HB7 := Lib.hid hb7
    have HS7 := Lib.hid hs7
    have HO7 := Lib.hid hoA
    have HF7 := Lib.hid hfb
    have hsz7 := has.size
    have HST : Hid (stepErr m day l k t = 0) := by show _ = _; unfold stepErr; rw [HE1.out, if_neg (by simp), HTF.out]
    clear hb7 hs7 hoA hfb has hownS hblkS hneS
    go_wp2
    go_roundw
    case rel =>
      refine ⟨k + 1, .slice y.1 (k + 1) y.2, S ++ [(⟨t, A1, n', c1', A2, c2'⟩ : Stp)], by omega, by go_num, HB7.out, by omega, HF7.out, ?_, ?_, HS7.out, fun j t' hj ht' => ?_⟩
      · rw [stpCells_snoc]; exact HO7.out
      · rw [List.map_append, HTS.out, List.take_add_one, HTT.out]; rfl
      · rcases Nat.lt_or_ge j k with h | h
        · exact HPRE.out j t' h ht'
        · obtain rfl : j = k := by omega
          rw [HTT.out] at ht'
          cases ht'
          exact HST.out
    case measure => simp [intOf]; omega

end Go.Proofs.Ytclnffpfbngjoaa

end
