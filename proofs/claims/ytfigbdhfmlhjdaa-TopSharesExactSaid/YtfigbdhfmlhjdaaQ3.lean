import Derived.Test.YtfigbdhfmlhjdaaQ2

section
/- The contract of the check of a whole tree. -/
namespace Go.Proofs.Ytfigbdhfmlhjdaa
open Go.RowKit

def rkCells (l : List Rk) : List Value := l.flatMap Rk.cells
theorem rkCells_length (l : List Rk) : (rkCells l).length = l.length * 5 := by
  induction l with
  | nil => rfl
  | cons p l ih => simp only [rkCells, List.flatMap_cons, List.length_append, List.length_cons, List.length_nil, Rk.cells] at *; omega
theorem rkCells_get (l : List Rk) : ∀ (i : Nat) (h : i < l.length) (j : Nat), j < 5 → (rkCells l)[i * 5 + j]? = (l[i]).cells[j]? := by
  induction l with
  | nil => intro i h; simp at h
  | cons p l ih =>
    intro i h j hj
    have e : rkCells (p :: l) = p.cells ++ rkCells l := rfl
    have e5 : p.cells.length = 5 := rfl
    rw [e]
    cases i with
    | zero => rw [List.getElem?_append_left (by omega)]; simp
    | succ i =>
      rw [List.getElem?_append_right (by omega), e5, show (i + 1) * 5 + j - 5 = i * 5 + j from by omega]
      simpa using ih i (by simpa using h) j hj

theorem Reads.len5 {w : World} {B n : Nat} {A : Option Addr} {l : List Rk} (h : Reads w B 5 A n (rkCells l)) : l.length = n := by
  have := h.1; rw [rkCells_length] at this; omega

theorem Reads.rk {w : World} {B n : Nat} {A : Option Addr} {l : List Rk} (h : Reads w B 5 A n (rkCells l)) {i : Nat} (hi : i < n) :
    ∃ b o r, A = some ⟨b, o, none⟩ ∧ b < B ∧ l[i]? = some r ∧ w.cell? ⟨b, o + i * 5, none⟩ = some (.string r.name) ∧ w.cell? ⟨b, o + i * 5 + 1, none⟩ = some (.string r.left) ∧
      w.cell? ⟨b, o + i * 5 + 2, none⟩ = some (.string r.right) ∧ w.cell? ⟨b, o + i * 5 + 3, none⟩ = some (.int .i64 r.al) ∧ w.cell? ⟨b, o + i * 5 + 4, none⟩ = some (.int .i64 r.ar) := by
  obtain ⟨b, o, e, hb, hc⟩ := h.2 (by omega)
  have hl := h.len5
  have hg := rkCells_get l i (by omega)
  exact ⟨b, o, l[i]'(by omega), e, hb, List.getElem?_eq_getElem (by omega), hc _ _ (hg 0 (by omega)), hc _ _ (hg 1 (by omega)), hc _ _ (hg 2 (by omega)), hc _ _ (hg 3 (by omega)), hc _ _ (hg 4 (by omega))⟩

def idxOf (l : List Rk) (s : ByteArray) : Option Nat := l.findIdx? fun r => decide (r.name = s)
def idxM (l : List Rk) (s : ByteArray) : Option Value := (idxOf l s).map fun (i : Nat) => .int .i64 (i : Int)

/-- The error of the first loop: the first rocker that is not right behind those before it. -/
def err1 : List Rk → List Rk → Int
  | _, [] => 0
  | seen, r :: l => if rkErr (idxM seen r.name).isSome r = 0 then err1 (seen ++ [r]) l else rkErr (idxM seen r.name).isSome r

theorem idxOf_append (l m : List Rk) (s : ByteArray) : idxOf (l ++ m) s = match idxOf l s with | some i => some i | none => (idxOf m s).map (· + l.length) := by
  unfold idxOf
  rw [List.findIdx?_append]
  cases l.findIdx? (fun r => decide (r.name = s)) <;> simp

theorem idxM_step {l : List Rk} {k : Nat} {r : Rk} (h : l[k]? = some r) (hn : (idxM (l.take k) r.name).isSome = false) :
    (fun u => if u = r.name then some (Value.int .i64 (k : Int)) else idxM (l.take k) u) = idxM (l.take (k + 1)) := by
  funext u
  have hk : k < l.length := (List.getElem?_eq_some_iff.1 h).1
  have e : l.take (k + 1) = l.take k ++ [r] := by rw [List.take_add_one, h]; rfl
  unfold idxM
  rw [e, idxOf_append]
  have hl : (l.take k).length = k := by rw [List.length_take]; omega
  by_cases hu : u = r.name
  · subst hu
    have : idxOf (l.take k) r.name = none := by
      unfold idxM at hn
      cases hx : idxOf (l.take k) r.name with
      | none => rfl
      | some i => rw [hx] at hn; simp at hn
    have h2 : idxOf [r] r.name = some 0 := by simp [idxOf]
    rw [this, h2, hl]
    simp
  · simp only [if_neg hu]
    cases hx : idxOf (l.take k) u with
    | some i => rfl
    | none =>
      have : idxOf [r] u = none := by
        have : ¬ r.name = u := fun e => hu e.symm
        simp [idxOf, this]
      simp [this]

theorem err1_at {l : List Rk} {k : Nat} (h : ∀ j, j < k → ∀ r, l[j]? = some r → rkErr (idxM (l.take j) r.name).isSome r = 0) : err1 [] l = err1 (l.take k) (l.drop k) := by
  induction k with
  | zero => simp
  | succ k ih =>
    rw [ih (fun j hj => h j (by omega))]
    by_cases hk : k < l.length
    · have hr : l[k]? = some l[k] := List.getElem?_eq_getElem hk
      rw [List.drop_eq_getElem_cons hk, err1, if_pos (h k (by omega) _ hr), List.take_add_one, hr]
      rfl
    · rw [List.drop_of_length_le (by omega), List.drop_of_length_le (by omega), List.take_of_length_le (by omega), List.take_of_length_le (by omega)]

theorem err1_stop {l : List Rk} {k : Nat} {r : Rk} (h : ∀ j, j < k → ∀ r, l[j]? = some r → rkErr (idxM (l.take j) r.name).isSome r = 0) (hr : l[k]? = some r)
    (he : rkErr (idxM (l.take k) r.name).isSome r ≠ 0) : err1 [] l = rkErr (idxM (l.take k) r.name).isSome r := by
  obtain ⟨hk, rfl⟩ := List.getElem?_eq_some_iff.1 hr
  rw [err1_at h, List.drop_eq_getElem_cons hk, err1, if_neg he]

def bearerOf (l : List Rk) (s : ByteArray) : Option Nat := l.findIdx? fun r => decide (r.left = s ∨ r.right = s)
def borneAll (l : List Rk) : List ByteArray := l.flatMap fun r => [r.left, r.right]
def climbs (l : List Rk) : Nat → ByteArray → Bool
  | 0, s => (bearerOf l s).isSome
  | f + 1, s => match bearerOf l s with
    | none => false
    | some i => climbs l f (((l[i]?).map (·.name)).getD s)
def isTop (l : List Rk) (i : Nat) : Bool := match l[i]? with
  | some r => (bearerOf l r.name).isNone
  | none => false
def topsTo (l : List Rk) (k : Nat) : List Nat := (List.range k).filter (isTop l)
def topsOf (l : List Rk) : List Nat := topsTo l l.length
theorem topsTo_succ (l : List Rk) (k : Nat) : topsTo l (k + 1) = topsTo l k ++ if isTop l k then [k] else [] := by
  unfold topsTo
  rw [List.range_succ, List.filter_append]
  congr 1
  cases h : isTop l k <;> simp [h]
theorem topsTo_le (l : List Rk) (k : Nat) : (topsTo l k).length ≤ k := by
  unfold topsTo
  exact Nat.le_trans (List.length_filter_le _ _) (by simp)
def openErr (l : List Rk) : Int :=
  if l.length = 0 then 10 else if 40 < l.length then 8 else if err1 [] l ≠ 0 then err1 [] l else if ¬ (borneAll l).Nodup then 13
  else if l.any (fun r => climbs l (l.length + 1) r.name) then 21 else if 1 < (topsOf l).length then 25 else 0
def topOf (l : List Rk) : Nat := (topsOf l).getLast?.getD 0

def pairsFrom (k : Nat) : List Rk → List (ByteArray × Nat)
  | [] => []
  | r :: l => (r.left, k) :: (r.right, k) :: pairsFrom (k + 1) l
theorem pairsFrom_length (k : Nat) (l : List Rk) : (pairsFrom k l).length = 2 * l.length := by
  induction l generalizing k with
  | nil => rfl
  | cons r l ih => simp only [pairsFrom, List.length_cons, ih]; omega
theorem pairsFrom_get (l : List Rk) : ∀ (k i : Nat) (r : Rk), l[i]? = some r → (pairsFrom k l)[2 * i]? = some (r.left, k + i) ∧ (pairsFrom k l)[2 * i + 1]? = some (r.right, k + i) := by
  induction l with
  | nil => intro k i r h; simp at h
  | cons x l ih =>
    intro k i r h
    cases i with
    | zero => simp at h; subst h; simp [pairsFrom]
    | succ i =>
      have := ih (k + 1) i r (by simpa using h)
      rw [show 2 * (i + 1) = 2 * i + 1 + 1 from by omega, show k + (i + 1) = k + 1 + i from by omega]
      simpa [pairsFrom] using this
theorem pairsFrom_fst (k : Nat) (l : List Rk) : (pairsFrom k l).map (·.1) = borneAll l := by
  induction l generalizing k with
  | nil => rfl
  | cons r l ih => simp [pairsFrom, borneAll] at *; exact ih (k + 1)
def bM (ps : List (ByteArray × Nat)) (s : ByteArray) : Option Value := (ps.find? fun p => decide (p.1 = s)).map fun p => .int .i64 (p.2 : Int)
theorem bM_all (l : List Rk) : ∀ (k : Nat) (s : ByteArray), bM (pairsFrom k l) s = (bearerOf l s).map fun (i : Nat) => .int .i64 ((k + i : Nat) : Int) := by
  induction l with
  | nil => intro k s; rfl
  | cons r l ih =>
    intro k s
    have := ih (k + 1) s
    unfold bM bearerOf at *
    rw [List.findIdx?_cons]
    by_cases h1 : r.left = s
    · simp [pairsFrom, h1]
    · by_cases h2 : r.right = s
      · simp [pairsFrom, h1, h2]
      · simp only [pairsFrom, List.find?_cons, h1, h2, decide_false, decide_true, Bool.false_eq_true, or_self, if_false]
        rw [this]
        cases List.findIdx? (fun r => decide (r.left = s ∨ r.right = s)) l with
        | none => rfl
        | some i => simp; omega
theorem bM_step {ps : List (ByteArray × Nat)} {m : Nat} {s : ByteArray} {i : Nat} (h : ps[m]? = some (s, i)) (hn : (bM (ps.take m) s).isSome = false) :
    (fun u => if u = s then some (Value.int .i64 (i : Int)) else bM (ps.take m) u) = bM (ps.take (m + 1)) := by
  funext u
  have e : ps.take (m + 1) = ps.take m ++ [(s, i)] := by rw [List.take_add_one, h]; rfl
  unfold bM at *
  rw [e, List.find?_append]
  by_cases hu : u = s
  · subst hu
    have : (ps.take m).find? (fun p => decide (p.1 = u)) = none := by
      cases hx : (ps.take m).find? (fun p => decide (p.1 = u)) with
      | none => rfl
      | some p => rw [hx] at hn; simp at hn
    rw [this]; simp
  · have hu' : ¬ s = u := fun e => hu e.symm
    simp only [if_neg hu]
    have : List.find? (fun p => decide (p.1 = u)) [(s, i)] = none := by simp [hu']
    rw [this]; simp
theorem bM_clash {ps : List (ByteArray × Nat)} {m : Nat} {s : ByteArray} {i : Nat} (h : ps[m]? = some (s, i)) (hn : (bM (ps.take m) s).isSome = true) : ¬ (ps.map (·.1)).Nodup := by
  intro hnd
  unfold bM at hn
  cases hx : (ps.take m).find? (fun p => decide (p.1 = s)) with
  | none => rw [hx] at hn; simp at hn
  | some p =>
    have hp := List.find?_some hx
    have hmem := List.mem_of_find?_eq_some hx
    obtain ⟨j, hj, he⟩ := List.getElem_of_mem hmem
    have hjm : j < m := by rw [List.length_take] at hj; omega
    obtain ⟨hm, hms⟩ := List.getElem?_eq_some_iff.1 h
    rw [List.getElem_take] at he
    have hpe : p.1 = s := by simpa using hp
    have := (List.pairwise_iff_getElem.1 hnd) j m (by rw [List.length_map]; omega) (by rw [List.length_map]; omega) hjm
    rw [List.getElem_map, List.getElem_map, he, hms] at this
    exact this hpe
theorem bM_nodup {ps : List (ByteArray × Nat)} {m : Nat} {s : ByteArray} {i : Nat} (h : ps[m]? = some (s, i)) (hn : (bM (ps.take m) s).isSome = false) (hd : ((ps.take m).map (·.1)).Nodup) : ((ps.take (m + 1)).map (·.1)).Nodup := by
  have e : ps.take (m + 1) = ps.take m ++ [(s, i)] := by rw [List.take_add_one, h]; rfl
  rw [e, List.map_append]
  refine List.nodup_append.2 ⟨hd, by simp, fun x hx y hy => ?_⟩
  simp only [List.map_cons, List.map_nil, List.mem_singleton] at hy
  subst hy
  rintro rfl
  obtain ⟨p, hp, rfl⟩ := List.mem_map.1 hx
  unfold bM at hn
  cases hf : (ps.take m).find? (fun q => decide (q.1 = p.1)) with
  | some q => rw [hf] at hn; simp at hn
  | none => have := List.find?_eq_none.1 hf p hp; simp at this

def upM (l : List Rk) (s : ByteArray) : Option Value := (bearerOf l s).map fun (i : Nat) => .int .i64 (i : Int)
theorem bM_up (l : List Rk) : bM (pairsFrom 0 l) = upM l := by
  funext s
  rw [bM_all]
  simp only [Nat.zero_add]
  rfl
theorem bearer_lt {l : List Rk} {s : ByteArray} {i : Nat} (h : bearerOf l s = some i) : i < l.length := by
  unfold bearerOf at h
  exact (List.findIdx?_eq_some_iff_getElem.1 h).1
theorem climbs_none {l : List Rk} {f : Nat} {s : ByteArray} (h : bearerOf l s = none) : climbs l f s = false := by
  cases f <;> simp [climbs, h]
theorem climbs_zero {l : List Rk} {s : ByteArray} {i : Nat} (h : bearerOf l s = some i) : climbs l 0 s = true := by
  simp [climbs, h]
theorem climbs_succ {l : List Rk} {f i : Nat} {s : ByteArray} {r : Rk} (h : bearerOf l s = some i) (hr : l[i]? = some r) : climbs l (f + 1) s = climbs l f r.name := by
  simp [climbs, h, hr]

/-- What 'open' leaves. -/
def OpenPost (l : List Rk) (A : Option Addr) (n c : Nat) (w : World) (e : Ending) (w' : World) : Prop :=
  Below w.heap.size w w' ∧ (openErr l ≠ 0 → e = .returned (.tuple #[.pointer none, .int .i64 (openErr l)])) ∧
  (openErr l = 0 → e = .returned (.tuple #[.pointer (some ⟨w.heap.size + 1, 0, none⟩), .int .i64 0]) ∧
    Blk w' (w.heap.size + 1) 100 #[.slice A n c, .map (some w.heap.size), .int .i64 (topOf l : Int)] ∧ MapIs Try.prog 9 w' w.heap.size n (idxM l))

set_option maxRecDepth 100000 in
set_option maxHeartbeats 2000000 in
theorem open_any (l : List Rk) (hf : ∀ r ∈ l, r.Fits) (A : Option Addr) (n c N : Nat) (w : World) (hx : Reads w N 5 A n (rkCells l)) (hN : N ≤ w.heap.size) (hn : n ≤ 9223372036854775807) :
    Calls Try.prog 36 #[.slice A n c] w (OpenPost l A n c w) := by
  have hxl := Lib.hid hx.len5
  have HX := Lib.hid hx
  clear hx
  by_cases h0 : n = 0
  · subst h0
    have hop : openErr l = 10 := by unfold openErr; rw [if_pos hxl.out]
    have HOP := Lib.hid hop
    clear hop
    go_enter Try.func36, Try.ntmps36
    go_wp2
    go_ret2
    exact ⟨Below.refl _ _, fun _ => by rw [HOP.out]; rfl, fun h => absurd h (by rw [HOP.out]; decide)⟩
  by_cases h40 : (40 : Int) < n
  · have e0 : ((n : Int) == 0) = false := by simp; omega
    have hop : openErr l = 8 := by unfold openErr; rw [if_neg (by rw [hxl.out]; exact h0), if_pos (by rw [hxl.out]; omega)]
    have HOP := Lib.hid hop
    clear hop
    go_enter Try.func36, Try.ntmps36
    go_wp2
    go_ret2
    exact ⟨Below.refl _ _, fun _ => by rw [HOP.out]; rfl, fun h => absurd h (by rw [HOP.out]; decide)⟩
  have e0 : ((n : Int) == 0) = false := by simp; omega
  have hmm := @run_makeMap Try.prog
  go_enter Try.func36, Try.ntmps36
  go_wp2
  go_loopw [40] (fun i wr => ∃ k : Nat, k ≤ n ∧ i = .int .i64 k ∧ Below w.heap.size w wr ∧ w.heap.size + 2 ≤ wr.heap.size ∧ MapIs Try.prog 9 wr w.heap.size k (idxM (l.take k)) ∧
      Blk wr (w.heap.size + 1) 100 #[.slice A n c, .map (some w.heap.size), .int .i64 0] ∧ (∀ j, j < k → ∀ r, l[j]? = some r → rkErr (idxM (l.take j) r.name).isSome r = 0)) (fun i _ => n - (intOf i).toNat)
  case atStart =>
    refine ⟨0, by omega, rfl, ?_, by simp, ?_, ?_, fun j hj => by omega⟩
    · repeat' (first | exact Below.refl _ _ | assumption | refine below_drewN ?_ _ | refine Below.drew ?_ | refine Below.alloc ?_ (by first | omega | (simp; done) | (simp; omega)) _ | refine Below.setCell ?_ (by first | omega | (simp; done) | (simp; omega)) _)
    · simp only [List.take_zero]
      exact (MapIs.made_ rfl _ _).alloc _
    · repeat' (first | assumption | exact Blk.at_ _ (by first | rfl | (simp; done) | (simp; omega)) _ _ | refine Blk.drewN ?_ _ | refine Blk.drew ?_ | refine Blk.alloc ?_ _ | refine Blk.far ?_ (by first | omega | (simp; done) | (simp; omega)) _)
  case round =>
    obtain ⟨k, hk, rfl, hbel, hsz, hmap, hblk, hok⟩ := hrel
    have HOK := Lib.hid hok
    clear hok
    by_cases hlt : k < n
    · obtain ⟨xb, xo, r, rfl, hxb, hr, c0, c1, c2, c3, c4⟩ := HX.out.rk hlt
      have HR := Lib.hid hr
      clear hr
      rw [← hbel.cell (p := ⟨xb, xo + k * 5, none⟩) (by simp; omega)] at c0
      rw [← hbel.cell (p := ⟨xb, xo + k * 5 + 1, none⟩) (by simp; omega)] at c1
      rw [← hbel.cell (p := ⟨xb, xo + k * 5 + 2, none⟩) (by simp; omega)] at c2
      rw [← hbel.cell (p := ⟨xb, xo + k * 5 + 3, none⟩) (by simp; omega)] at c3
      rw [← hbel.cell (p := ⟨xb, xo + k * 5 + 4, none⟩) (by simp; omega)] at c4
      have hfit : r.Fits := hf r (List.mem_of_getElem? HR.out)
      go_wp2
      refine Fx.regionW (fun _ _ w' => Below w.heap.size w w' ∧ wr.heap.size + 1 ≤ w'.heap.size ∧ MapIs Try.prog 9 w' w.heap.size k (idxM (l.take k)) ∧ Blk w' (w.heap.size + 1) 100 #[.slice (some ⟨xb, xo, none⟩) n c, .map (some w.heap.size), .int .i64 0] ∧ Blk w' wr.heap.size 65 #[.string r.name, .string r.left, .string r.right, .int .i64 r.al, .int .i64 r.ar]) (by kernel_rfl) (by kernel_rfl) ?_ ?_
      · intro f hf0
        refine ⟨?_, by simp, ?_, ?_, ?_⟩
        · repeat' (first | exact Below.refl _ _ | assumption | refine below_drewN ?_ _ | refine Below.drew ?_ | refine Below.alloc ?_ (by first | omega | (simp; done) | (simp; omega)) _ | refine Below.setCell ?_ (by first | omega | (simp; done) | (simp; omega)) _)
        · repeat' (first | assumption | exact MapIs.made_ (by first | rfl | (simp; done)) _ _ | refine MapIs.drewN ?_ _ | refine MapIs.drew ?_ | refine MapIs.alloc ?_ _ | refine MapIs.set_ ?_ (by first | omega | (simp; done) | (simp; omega)) _)
        · repeat' (first | assumption | exact Blk.at_ _ (by first | rfl | (simp; done) | (simp; omega)) _ _ | refine Blk.drewN ?_ _ | refine Blk.drew ?_ | refine Blk.alloc ?_ _ | refine Blk.far ?_ (by first | omega | (simp; done) | (simp; omega)) _)
        · repeat' (first | assumption | exact Blk.at_ _ (by first | rfl | (simp; done) | (simp; omega)) _ _ | refine Blk.drewN ?_ _ | refine Blk.drew ?_ | refine Blk.alloc ?_ _ | refine Blk.far ?_ (by first | omega | (simp; done) | (simp; omega)) _)
      repeat (first
        | (refine Fx.skip_ (by rfl) (fun f w h => h) ?_; simp only [Act.put, List.setIfInBounds_toArray, List.set_cons_zero, List.set_cons_succ])
        | (refine Fx.val_ ?_ (by rfl) ?_ (fun f w h => h) ?_
           rotate_left
           · intro f w' hD hk
             obtain ⟨hb, hz, hM, h1, h2⟩ := id hD
             have t1 : w'.cell? ⟨w.heap.size + 1, 1, none⟩ = some (.map (some w.heap.size)) := h1.cell 1
             have r0 : w'.cell? ⟨wr.heap.size, 0, none⟩ = some (.string r.name) := h2.cell 0
             have r1 : w'.cell? ⟨wr.heap.size, 1, none⟩ = some (.string r.left) := h2.cell 1
             have r2 : w'.cell? ⟨wr.heap.size, 2, none⟩ = some (.string r.right) := h2.cell 2
             have r3 : w'.cell? ⟨wr.heap.size, 3, none⟩ = some (.int .i64 r.al) := h2.cell 3
             have r4 : w'.cell? ⟨wr.heap.size, 4, none⟩ = some (.int .i64 r.ar) := h2.cell 4
             clear hk hD hb hz hM h1 h2
             go_simp
             try rfl
           simp only [Act.put, List.setIfInBounds_toArray, List.set_cons_zero, List.set_cons_succ]))
      refine Fx.call_ (.int .i64 (rkErr (idxM (l.take k) r.name).isSome r)) ?_ ?_ (by rfl) ?_ ?_ ?_
      rotate_left 2
      · intro w'
        go_simp
        refine ⟨?_, ?_⟩ <;> rfl
      · intro f w' hD hk
        obtain ⟨hb, hz, hM, h1, h2⟩ := id hD
        exact (check_any r hfit _ _ _ _ hM).mono fun e w'' ⟨he, hw⟩ => ⟨he, hb.trans (hw.mono (by have := hb.size; omega)), by have := hw.size; omega, hM.below hw hM.lt, h1.below hw h1.lt, h2.below hw h2.lt⟩
      simp only [Act.put, List.setIfInBounds_toArray, List.set_cons_zero, List.set_cons_succ]
      repeat (first
        | (refine Fx.skip_ (by rfl) (fun f w h => h) ?_; simp only [Act.put, List.setIfInBounds_toArray, List.set_cons_zero, List.set_cons_succ])
        | (refine Fx.val_ ?_ (by rfl) ?_ (fun f w h => h) ?_
           rotate_left
           · intro f w' hD hk
             obtain ⟨hb, hz, hM, h1, h2⟩ := id hD
             have t1 : w'.cell? ⟨w.heap.size + 1, 1, none⟩ = some (.map (some w.heap.size)) := h1.cell 1
             have r0 : w'.cell? ⟨wr.heap.size, 0, none⟩ = some (.string r.name) := h2.cell 0
             have r1 : w'.cell? ⟨wr.heap.size, 1, none⟩ = some (.string r.left) := h2.cell 1
             have r2 : w'.cell? ⟨wr.heap.size, 2, none⟩ = some (.string r.right) := h2.cell 2
             have r3 : w'.cell? ⟨wr.heap.size, 3, none⟩ = some (.int .i64 r.al) := h2.cell 3
             have r4 : w'.cell? ⟨wr.heap.size, 4, none⟩ = some (.int .i64 r.ar) := h2.cell 4
             clear hk hD hb hz hM h1 h2
             go_simp
             try rfl
           simp only [Act.put, List.setIfInBounds_toArray, List.set_cons_zero, List.set_cons_succ]))
      refine Fx.nil_ ?_
      intro f w1 hall hD
      obtain ⟨hb, hz, hM, h1, h2⟩ := hD
      try clear hall
      try clear hall
      by_cases he : rkErr (idxM (l.take k) r.name).isSome r = 0
      · go_wp2
        have HEK := Lib.hid he
        have hnone : (idxM (l.take k) r.name).isSome = false := by
          cases hx : (idxM (l.take k) r.name).isSome
          · rfl
          · rw [hx] at he; unfold rkErr at he; split at he <;> simp at he
        clear he
        obtain ⟨w2, hrun, hM2, hg2⟩ := (hM.drewN 1).put Try.underlying9 Try.underlying98 r.name hfit.name (by unfold maxLen; omega) (.int .i64 (k : Int))
        have HRUN := Lib.hid hrun
        clear hrun
        have hne1 := hM.ne_blk h1
        have hne2 := hM.ne_blk h2
        have k1 : Blk w2 _ _ _ := (h1.drewN 1).grown hg2 (by intro e; exact hne1 (Option.some.inj e).symm)
        have k2 : Blk w2 _ _ _ := (h2.drewN 1).grown hg2 (by intro e; exact hne2 (Option.some.inj e).symm)
        clear hne1 hne2
        refine Fx.region (fun f w' => Blk w' (w.heap.size + 1) 100 #[.slice (some ⟨xb, xo, none⟩) n c, .map (some w.heap.size), .int .i64 0] ∧ Blk w' wr.heap.size 65 #[.string r.name, .string r.left, .string r.right, .int .i64 r.al, .int .i64 r.ar] ∧ w' = if f 7 then w2 else w1.drewN 1) (by kernel_rfl) (by kernel_rfl) ?_ ?_
        · intro f hf0
          refine ⟨h1.drewN 1, h2.drewN 1, by rw [hf0 7]; rfl⟩
        repeat (first
          | (refine Fx.skip_ (by rfl) (fun f w h => h) ?_; simp only [Act.put, List.setIfInBounds_toArray, List.set_cons_zero, List.set_cons_succ])
          | (refine Fx.val_ ?_ (by rfl) ?_ (fun f w h => h) ?_
             rotate_left
             · intro f w' hD hk
               obtain ⟨j1, j2, jw⟩ := id hD
               have t1 : w'.cell? ⟨w.heap.size + 1, 1, none⟩ = some (.map (some w.heap.size)) := j1.cell 1
               have r0 : w'.cell? ⟨wr.heap.size, 0, none⟩ = some (.string r.name) := j2.cell 0
               clear hk hD j1 j2 jw
               go_simp
               try rfl
             simp only [Act.put, List.setIfInBounds_toArray, List.set_cons_zero, List.set_cons_succ]))
        refine Fx.store_ (fun w' => w2) (by rfl) ?_ ?_ ?_
        · intro f w' hD hk
          obtain ⟨j1, j2, jw⟩ := id hD
          have hf7 : f 7 = false := hk.1
          rw [hf7] at jw
          simp only [Bool.false_eq_true, if_false] at jw
          subst jw
          have hrun := HRUN.out
          clear hk hD
          go_simp
        · intro f w' hD hk
          obtain ⟨j1, j2, jw⟩ := id hD
          have hf7 : f 7 = false := hk.1
          rw [hf7] at jw
          simp only [Bool.false_eq_true, if_false] at jw
          subst jw
          exact ⟨k1, k2, rfl⟩
        simp only [Act.put, List.setIfInBounds_toArray, List.set_cons_zero, List.set_cons_succ]
        refine Fx.nil_ ?_
        intro f w1 hall hD
        have hf7 := hall 7 (by simp)
        obtain ⟨j1, j2, jw⟩ := hD
        simp only [hf7, if_true] at *
        try clear hall
        clear HRUN
        subst jw
        go_wp2
        go_roundw
        case rel =>
          have hstep := idxM_step HR.out hnone
          refine ⟨k + 1, by omega, by go_num, hb.trans (((below_drewN (Below.refl _ _) 1).grown hg2 (by simp; have := hb.size; omega) (by intro g hg; simp at hg; omega))), ?_, ?_, j1, fun j hj r' hr' => ?_⟩
          · have := hg2.size; simp at this; omega
          · rw [← hstep]; exact hM2
          · rcases Nat.lt_succ_iff_lt_or_eq.1 hj with hj | hj
            · exact HOK.out j hj r' hr'
            · subst hj
              obtain rfl := Option.some.inj (hr'.symm.trans HR.out)
              exact HEK.out
        case measure => simp [intOf]; omega
      · have he' : (rkErr (idxM (l.take k) r.name).isSome r != 0) = true := bne_iff_ne.2 he
        go_wp2
        go_ret2
        have h1' := err1_stop HOK.out HR.out he
        have hop : openErr l = rkErr (idxM (l.take k) r.name).isSome r := by
          unfold openErr
          rw [if_neg (by rw [hxl.out]; exact h0), if_neg (by rw [hxl.out]; omega), if_pos (by rw [h1']; exact he), h1']
        exact ⟨hb, fun _ => by rw [hop]; rfl, fun h => absurd h (by rw [hop]; exact he)⟩
    · have hkn : k = n := by omega
      have he1 : err1 [] l = 0 := by
        rw [err1_at HOK.out, List.drop_of_length_le (by rw [hxl.out]; omega)]; rfl
      have HE1 := Lib.hid he1
      have htk : l.take k = l := List.take_of_length_le (by rw [hxl.out]; omega)
      rw [htk] at hmap
      have hmap' := hmap.mono (show k ≤ n from hk)
      clear he1 htk HOK hmap hkn
      go_wp2
      obtain ⟨wo, hwo⟩ : ∃ wo : World, wo = wr := ⟨_, rfl⟩
      subst hwo
      go_loopw [65] (fun i wr => ∃ k : Nat, k ≤ n ∧ i = .int .i64 k ∧ Below w.heap.size w wr ∧ wo.heap.size + 1 ≤ wr.heap.size ∧ MapIs Try.prog 9 wr w.heap.size n (idxM l) ∧
          Blk wr (w.heap.size + 1) 100 #[.slice A n c, .map (some w.heap.size), .int .i64 0] ∧ MapIs Try.prog 9 wr wo.heap.size (2 * k) (bM ((pairsFrom 0 l).take (2 * k))) ∧ (((pairsFrom 0 l).take (2 * k)).map (·.1)).Nodup) (fun i _ => n - (intOf i).toNat)
      case atStart =>
        refine ⟨0, by omega, rfl, ?_, by simp, ?_, ?_, ?_, by simp⟩
        · repeat' (first | exact Below.refl _ _ | assumption | refine below_drewN ?_ _ | refine Below.drew ?_ | refine Below.alloc ?_ (by first | omega | (simp; done) | (simp; omega)) _ | refine Below.setCell ?_ (by first | omega | (simp; done) | (simp; omega)) _)
        · repeat' (first | assumption | exact MapIs.made_ (by first | rfl | (simp; done)) _ _ | refine MapIs.drewN ?_ _ | refine MapIs.drew ?_ | refine MapIs.alloc ?_ _ | refine MapIs.set_ ?_ (by first | omega | (simp; done) | (simp; omega)) _)
        · repeat' (first | assumption | exact Blk.at_ _ (by first | rfl | (simp; done) | (simp; omega)) _ _ | refine Blk.drewN ?_ _ | refine Blk.drew ?_ | refine Blk.alloc ?_ _ | refine Blk.far ?_ (by first | omega | (simp; done) | (simp; omega)) _)
        · simp only [Nat.mul_zero, List.take_zero]
          exact MapIs.made_ rfl _ _
      case round =>
        obtain ⟨k, hk, rfl, hbel2, hsz2, hmap2, hblk2, hbm, hnd⟩ := hrel
        have HND := Lib.hid hnd
        clear hnd
        by_cases hlt : k < n
        · obtain ⟨xb, xo, r, rfl, hxb, hr, c0, c1, c2, c3, c4⟩ := HX.out.rk hlt
          have hfit : r.Fits := hf r (List.mem_of_getElem? hr)
          have HR := Lib.hid hr
          have hpg := Lib.hid (pairsFrom_get l 0 k r hr)
          clear hr
          have f2 := hfit.left
          have f3 := hfit.right
          rw [← hbel2.cell (p := ⟨xb, xo + k * 5, none⟩) (by simp; omega)] at c0
          rw [← hbel2.cell (p := ⟨xb, xo + k * 5 + 1, none⟩) (by simp; omega)] at c1
          rw [← hbel2.cell (p := ⟨xb, xo + k * 5 + 2, none⟩) (by simp; omega)] at c2
          rw [← hbel2.cell (p := ⟨xb, xo + k * 5 + 3, none⟩) (by simp; omega)] at c3
          rw [← hbel2.cell (p := ⟨xb, xo + k * 5 + 4, none⟩) (by simp; omega)] at c4
          go_wp2
          obtain ⟨wp, hwp⟩ : ∃ wp : World, wp = wr := ⟨_, rfl⟩
          subst hwp
          go_loopw [75] (fun i wr => ∃ j : Nat, j ≤ 2 ∧ i = .int .i64 j ∧ Below w.heap.size w wr ∧ wo.heap.size + 1 ≤ wr.heap.size ∧ MapIs Try.prog 9 wr w.heap.size n (idxM l) ∧
              Blk wr (w.heap.size + 1) 100 #[.slice (some ⟨xb, xo, none⟩) n c, .map (some w.heap.size), .int .i64 0] ∧ MapIs Try.prog 9 wr wo.heap.size (2 * k + j) (bM ((pairsFrom 0 l).take (2 * k + j))) ∧ (((pairsFrom 0 l).take (2 * k + j)).map (·.1)).Nodup) (fun i _ => 2 - (intOf i).toNat)
          case atStart =>
            refine ⟨0, by omega, rfl, ?_, by simp; omega, ?_, ?_, ?_, HND.out⟩
            · repeat' (first | exact Below.refl _ _ | assumption | refine below_drewN ?_ _ | refine Below.drew ?_ | refine Below.alloc ?_ (by first | omega | (simp; done) | (simp; omega)) _ | refine Below.setCell ?_ (by first | omega | (simp; done) | (simp; omega)) _)
            · repeat' (first | assumption | exact MapIs.made_ (by first | rfl | (simp; done)) _ _ | refine MapIs.drewN ?_ _ | refine MapIs.drew ?_ | refine MapIs.alloc ?_ _ | refine MapIs.set_ ?_ (by first | omega | (simp; done) | (simp; omega)) _)
            · repeat' (first | assumption | exact Blk.at_ _ (by first | rfl | (simp; done) | (simp; omega)) _ _ | refine Blk.drewN ?_ _ | refine Blk.drew ?_ | refine Blk.alloc ?_ _ | refine Blk.far ?_ (by first | omega | (simp; done) | (simp; omega)) _)
            · repeat' (first | assumption | exact MapIs.made_ (by first | rfl | (simp; done)) _ _ | refine MapIs.drewN ?_ _ | refine MapIs.drew ?_ | refine MapIs.alloc ?_ _ | refine MapIs.set_ ?_ (by first | omega | (simp; done) | (simp; omega)) _)
          case round =>
            obtain ⟨j, hj, rfl, hbel3, hsz3, hmap3, hblk3, hbm3, hnd3⟩ := hrel
            have HND3 := Lib.hid hnd3
            clear hnd3 HND
            have hcj : j = 0 ∨ j = 1 ∨ j = 2 := by omega
            have i0 : ∀ w, (Instr.index 110 (.agg #[.string r.left, .string r.right]) (.int .i64 0)).run Try.prog w = .ok (.string r.left) w := fun _ => by kernel_rfl
            have i1 : ∀ w, (Instr.index 110 (.agg #[.string r.left, .string r.right]) (.int .i64 1)).run Try.prog w = .ok (.string r.right) w := fun _ => by kernel_rfl
            rcases hcj with rfl | rfl | rfl
            · simp only [Nat.add_zero] at hbm3
              have hpj : (pairsFrom 0 l)[2 * k]? = some (r.left, k) := by simpa using hpg.out.1
              have HPJ := Lib.hid hpj
              clear hpj
              go_wp2_with (first | (at_lookup; refine wpList_look _ rfl _ _ _ rfl Try.underlying9 Try.underlying98 (zero_int _) hbm3 rfl _ rfl f2 ?_) | (at_mapUpdate; refine wpList_put _ rfl _ _ _ _ rfl Try.underlying9 Try.underlying98 hbm3 rfl _ rfl f2 (by unfold maxLen; omega) _ rfl ?_; intro w2 hm2 hg2))
              · have hcl : (bM ((pairsFrom 0 l).take (2 * k)) r.left).isSome = true := by assumption
                go_ret2
                have hdup := bM_clash HPJ.out hcl
                rw [pairsFrom_fst] at hdup
                have hop : openErr l = 13 := by
                  unfold openErr
                  rw [if_neg (by rw [hxl.out]; exact h0), if_neg (by rw [hxl.out]; omega), if_neg (by rw [HE1.out]; simp), if_pos hdup]
                exact ⟨hbel3, fun _ => by rw [hop]; rfl, fun h => absurd h (by rw [hop]; decide)⟩
              · have hcl : (bM ((pairsFrom 0 l).take (2 * k)) r.left).isSome = false := by
                  first | assumption | (have h : ¬ (bM ((pairsFrom 0 l).take (2 * k)) r.left).isSome = true := by assumption
                                        simpa using h)
                go_roundw
                case rel =>
                  refine ⟨1, by omega, rfl, hbel3.grown hg2 hbel3.size (by intro g hg; have := hbel.size; simp at hg; omega), by have := hg2.size; omega, hmap3.kept hg2 (by intro e; have := hmap'.lt; simp at e; omega), hblk3.grown hg2 (by simp; omega), ?_, bM_nodup HPJ.out hcl (by simpa using HND3.out)⟩
                  rw [← bM_step HPJ.out hcl]
                  exact hm2
                case measure => simp [intOf]
            · skip
              have hpj : (pairsFrom 0 l)[2 * k + 1]? = some (r.right, k) := by simpa using hpg.out.2
              have HPJ := Lib.hid hpj
              clear hpj
              go_wp2_with (first | (at_lookup; refine wpList_look _ rfl _ _ _ rfl Try.underlying9 Try.underlying98 (zero_int _) hbm3 rfl _ rfl f3 ?_) | (at_mapUpdate; refine wpList_put _ rfl _ _ _ _ rfl Try.underlying9 Try.underlying98 hbm3 rfl _ rfl f3 (by unfold maxLen; omega) _ rfl ?_; intro w2 hm2 hg2))
              · have hcl : (bM ((pairsFrom 0 l).take (2 * k + 1)) r.right).isSome = true := by assumption
                go_ret2
                have hdup := bM_clash HPJ.out hcl
                rw [pairsFrom_fst] at hdup
                have hop : openErr l = 13 := by
                  unfold openErr
                  rw [if_neg (by rw [hxl.out]; exact h0), if_neg (by rw [hxl.out]; omega), if_neg (by rw [HE1.out]; simp), if_pos hdup]
                exact ⟨hbel3, fun _ => by rw [hop]; rfl, fun h => absurd h (by rw [hop]; decide)⟩
              · have hcl : (bM ((pairsFrom 0 l).take (2 * k + 1)) r.right).isSome = false := by
                  first | assumption | (have h : ¬ (bM ((pairsFrom 0 l).take (2 * k + 1)) r.right).isSome = true := by assumption
                                        simpa using h)
                go_roundw
                case rel =>
                  refine ⟨2, by omega, rfl, hbel3.grown hg2 hbel3.size (by intro g hg; have := hbel.size; simp at hg; omega), by have := hg2.size; omega, hmap3.kept hg2 (by intro e; have := hmap'.lt; simp at e; omega), hblk3.grown hg2 (by simp; omega), ?_, bM_nodup HPJ.out hcl HND3.out⟩
                  rw [← bM_step HPJ.out hcl]
                  exact hm2
                case measure => simp [intOf]
            · go_wp2
              go_roundw
              case rel =>
                refine ⟨k + 1, by omega, by go_num, hbel3, hsz3, hmap3, hblk3, ?_, ?_⟩
                · rw [show 2 * (k + 1) = 2 * k + 2 from by omega]; exact hbm3
                · rw [show 2 * (k + 1) = 2 * k + 2 from by omega]; exact HND3.out
              case measure => simp [intOf]; omega
        · have hkn : k = n := by omega
          have hall : (pairsFrom 0 l).take (2 * k) = pairsFrom 0 l := List.take_of_length_le (by rw [pairsFrom_length, hxl.out]; omega)
          have HD : Hid ((borneAll l).Nodup) := by
            have := HND.out
            rw [hall, pairsFrom_fst] at this
            exact this
          rw [hall] at hbm
          have hbm' := hbm.mono (show 2 * k ≤ 2 * n by omega)
          clear HND hall hkn hbm
          rw [bM_up] at hbm'
          go_wp2
          obtain ⟨wq, hwq⟩ : ∃ wq : World, wq = wr := ⟨_, rfl⟩
          subst hwq
          go_loopw [92] (fun i wr => ∃ k : Nat, k ≤ n ∧ i = .int .i64 k ∧ Below w.heap.size w wr ∧ wo.heap.size + 1 ≤ wr.heap.size ∧ MapIs Try.prog 9 wr w.heap.size n (idxM l) ∧
              Blk wr (w.heap.size + 1) 100 #[.slice A n c, .map (some w.heap.size), .int .i64 0] ∧ MapIs Try.prog 9 wr wo.heap.size (2 * n) (upM l) ∧ (∀ j, j < k → ∀ r, l[j]? = some r → climbs l (n + 1) r.name = false)) (fun i _ => n - (intOf i).toNat)
          case atStart => exact ⟨0, by omega, rfl, hbel2, hsz2, hmap2, hblk2, hbm', fun j hj => by omega⟩
          case round =>
            obtain ⟨k, hk, rfl, hbel4, hsz4, hmap4, hblk4, hbm4, hcl⟩ := hrel
            have HCL := Lib.hid hcl
            clear hcl
            by_cases hlt : k < n
            · obtain ⟨xb, xo, r, rfl, hxb, hr, c0, c1, c2, c3, c4⟩ := HX.out.rk hlt
              have hfit : r.Fits := hf r (List.mem_of_getElem? hr)
              have HR := Lib.hid hr
              clear hr
              rw [← hbel4.cell (p := ⟨xb, xo + k * 5, none⟩) (by simp; omega)] at c0
              rw [← hbel4.cell (p := ⟨xb, xo + k * 5 + 1, none⟩) (by simp; omega)] at c1
              rw [← hbel4.cell (p := ⟨xb, xo + k * 5 + 2, none⟩) (by simp; omega)] at c2
              rw [← hbel4.cell (p := ⟨xb, xo + k * 5 + 3, none⟩) (by simp; omega)] at c3
              rw [← hbel4.cell (p := ⟨xb, xo + k * 5 + 4, none⟩) (by simp; omega)] at c4
              go_wp2
              go_loopw [17, 18] (fun x y wv => ∃ (nm : ByteArray) (st : Nat), x = .string nm ∧ y = .int .i64 st ∧ st ≤ n + 1 ∧ nm.size ≤ maxLen ∧ climbs l (n + 1 - st) nm = climbs l (n + 1) r.name ∧ wv = wr.alloc (.cells #[.string r.name, .string r.left, .string r.right, .int .i64 r.al, .int .i64 r.ar] 65)) (fun _ y _ => n + 2 - (intOf y).toNat)
              case atStart => exact ⟨r.name, 0, rfl, rfl, by omega, hfit.name, rfl, rfl⟩
              case round =>
                obtain ⟨nm, st, rfl, rfl, hst, hnm, hcm, rfl⟩ := hrel
                have HCM := Lib.hid hcm
                clear hcm
                have hbm4 := hbm4.alloc (.cells #[.string r.name, .string r.left, .string r.right, .int .i64 r.al, .int .i64 r.ar] 65)
                cases hbo : bearerOf l nm with
                | none =>
                  have hu : upM l nm = none := by unfold upM; rw [hbo]; rfl
                  have HBO := Lib.hid hbo
                  clear hbo
                  go_wp2_with (first | (at_lookup; refine wpList_look _ rfl _ _ _ rfl Try.underlying9 Try.underlying98 (zero_int _) hbm4 rfl _ rfl hnm ?_))
                  go_roundw
                  case rel =>
                    refine ⟨k + 1, by omega, by go_num, hbel4.alloc hbel4.size _, by simp; omega, hmap4.alloc _, hblk4.alloc _, hbm4, fun j hj r' hr' => ?_⟩
                    rcases Nat.lt_succ_iff_lt_or_eq.1 hj with hj | hj
                    · exact HCL.out j hj r' hr'
                    · subst hj
                      obtain rfl := Option.some.inj (hr'.symm.trans HR.out)
                      rw [← HCM.out]; exact climbs_none HBO.out
                  case measure => simp [intOf]; omega
                | some i =>
                  have hin := bearer_lt hbo
                  have hil : i < n := by rw [hxl.out] at hin; exact hin
                  clear hin
                  have hu : upM l nm = some (.int .i64 (i : Int)) := by unfold upM; rw [hbo]; rfl
                  have HBO := Lib.hid hbo
                  clear hbo
                  obtain ⟨xb', xo', r', hA', hxb', hr', d0, _⟩ := HX.out.rk hil
                  simp only [Option.some.injEq, Addr.mk.injEq, and_true] at hA'
                  obtain ⟨rfl, rfl⟩ := hA'
                  have hfit' : r'.Fits := hf r' (List.mem_of_getElem? hr')
                  have HR' := Lib.hid hr'
                  clear hr'
                  rw [← hbel4.cell (p := ⟨xb, xo + i * 5, none⟩) (by simp; omega)] at d0
                  have d1 := (World.cell?_alloc_lt wr (.cells #[.string r.name, .string r.left, .string r.right, .int .i64 r.al, .int .i64 r.ar] 65) ⟨xb, xo + i * 5, none⟩ (by have := hbel4.size; simp; omega)).trans d0
                  by_cases hsn : (n : Int) < st
                  · go_wp2_with (first | (at_lookup; refine wpList_look _ rfl _ _ _ rfl Try.underlying9 Try.underlying98 (zero_int _) hbm4 rfl _ rfl hnm ?_))
                    go_ret2
                    have hop : openErr l = 21 := by
                      have h1 : climbs l (n + 1) r.name = true := by
                        rw [← HCM.out, show n + 1 - st = 0 from by omega]; exact climbs_zero HBO.out
                      have h2 : l.any (fun r => climbs l (l.length + 1) r.name) = true := List.any_eq_true.2 ⟨r, List.mem_of_getElem? HR.out, by rw [hxl.out]; exact h1⟩
                      unfold openErr
                      rw [if_neg (by rw [hxl.out]; exact h0), if_neg (by rw [hxl.out]; omega), if_neg (by rw [HE1.out]; simp), if_neg (by simpa using HD.out), if_pos h2]
                    exact ⟨hbel4.alloc hbel4.size _, fun _ => by rw [hop]; rfl, fun h => absurd h (by rw [hop]; decide)⟩
                  · go_wp2_with (first | (at_lookup; refine wpList_look _ rfl _ _ _ rfl Try.underlying9 Try.underlying98 (zero_int _) hbm4 rfl _ rfl hnm ?_))
                    go_roundw
                    case rel =>
                      refine ⟨r'.name, st + 1, rfl, by go_num, by omega, hfit'.name, ?_, by first | trivial | rfl⟩
                      rw [← HCM.out, ← climbs_succ HBO.out HR'.out, show n + 1 - (st + 1) + 1 = n + 1 - st from by omega]
                    case measure => simp [intOf]; omega
            · have hkn : k = n := by omega
              have HC : Hid (l.any (fun r => climbs l (l.length + 1) r.name) = false) := by
                show _ = _
                rw [List.any_eq_false]
                intro r hr
                obtain ⟨j, hj, rfl⟩ := List.getElem_of_mem hr
                have := HCL.out j (by rw [hkn, ← hxl.out]; exact hj) _ (List.getElem?_eq_getElem hj)
                rw [hxl.out, this]; simp
              clear HCL hkn
              go_wp2
              obtain ⟨wz, hwz⟩ : ∃ wz : World, wz = wr := ⟨_, rfl⟩
              subst hwz
              go_loopw [21, 120] (fun x i wr => ∃ k : Nat, k ≤ n ∧ i = .int .i64 k ∧ x = .int .i64 ((topsTo l k).length : Int) ∧ Below w.heap.size w wr ∧ wo.heap.size + 1 ≤ wr.heap.size ∧ MapIs Try.prog 9 wr w.heap.size n (idxM l) ∧
                  Blk wr (w.heap.size + 1) 100 #[.slice A n c, .map (some w.heap.size), .int .i64 (((topsTo l k).getLast?.getD 0 : Nat) : Int)] ∧ MapIs Try.prog 9 wr wo.heap.size (2 * n) (upM l)) (fun _ i _ => n - (intOf i).toNat)
              case atStart => exact ⟨0, by omega, rfl, rfl, hbel4, hsz4, hmap4, hblk4, hbm4⟩
              case round =>
                obtain ⟨k, hk, rfl, rfl, hbel6, hsz6, hmap6, hblk6, hbm6⟩ := hrel
                have htl := topsTo_le l k
                have hts := Lib.hid (topsTo_succ l k)
                by_cases hlt : k < n
                · obtain ⟨xb, xo, r, rfl, hxb, hr, c0, c1, c2, c3, c4⟩ := HX.out.rk hlt
                  have hfit : r.Fits := hf r (List.mem_of_getElem? hr)
                  have hnm := hfit.name
                  have HR := Lib.hid hr
                  clear hr
                  rw [← hbel6.cell (p := ⟨xb, xo + k * 5, none⟩) (by simp; omega)] at c0
                  rw [← hbel6.cell (p := ⟨xb, xo + k * 5 + 1, none⟩) (by simp; omega)] at c1
                  rw [← hbel6.cell (p := ⟨xb, xo + k * 5 + 2, none⟩) (by simp; omega)] at c2
                  rw [← hbel6.cell (p := ⟨xb, xo + k * 5 + 3, none⟩) (by simp; omega)] at c3
                  rw [← hbel6.cell (p := ⟨xb, xo + k * 5 + 4, none⟩) (by simp; omega)] at c4
                  have hbm6 := hbm6.alloc (.cells #[.string r.name, .string r.left, .string r.right, .int .i64 r.al, .int .i64 r.ar] 65)
                  have hblk7 := hblk6.alloc (.cells #[.string r.name, .string r.left, .string r.right, .int .i64 r.al, .int .i64 r.ar] 65)
                  have t2 : ∀ j, (wr.alloc (.cells #[.string r.name, .string r.left, .string r.right, .int .i64 r.al, .int .i64 r.ar] 65)).cell? ⟨w.heap.size + 1, j, none⟩ = _ := hblk7.cell
                  have z2 := hblk7.frozen 2
                  have t2 := t2 2
                  cases hbo : bearerOf l r.name with
                  | none =>
                    have hu : upM l r.name = none := by unfold upM; rw [hbo]; rfl
                    have HT : Hid (isTop l k = true) := by show _ = _; unfold isTop; rw [HR.out]; simp [hbo]
                    clear hbo
                    go_wp2_with (first | (at_lookup; refine wpList_look _ rfl _ _ _ rfl Try.underlying9 Try.underlying98 (zero_int _) hbm6 rfl _ rfl hnm ?_))
                    go_roundw
                    case rel =>
                      have e : topsTo l (k + 1) = topsTo l k ++ [k] := by rw [hts.out, HT.out]; simp
                      refine ⟨k + 1, by omega, by go_num, by rw [e, List.length_append]; simp, (hbel6.alloc hbel6.size _).setCell (p := ⟨w.heap.size + 1, 2, none⟩) (by simp) _, by simp [World.setCell]; omega, (hmap6.alloc _).set_ (by simp) _, ?_, hbm6.set_ (by simp; omega) _⟩
                      rw [e]
                      simpa using hblk7.set_ 2 (.int .i64 (k : Int))
                    case measure => simp [intOf]; omega
                  | some i =>
                    have hu : upM l r.name = some (.int .i64 (i : Int)) := by unfold upM; rw [hbo]; rfl
                    have HT : Hid (isTop l k = false) := by show _ = _; unfold isTop; rw [HR.out]; simp [hbo]
                    clear hbo
                    go_wp2_with (first | (at_lookup; refine wpList_look _ rfl _ _ _ rfl Try.underlying9 Try.underlying98 (zero_int _) hbm6 rfl _ rfl hnm ?_))
                    go_roundw
                    case rel =>
                      have e : topsTo l (k + 1) = topsTo l k := by rw [hts.out, HT.out]; simp
                      refine ⟨k + 1, by omega, by go_num, by rw [e], hbel6.alloc hbel6.size _, by simp; omega, hmap6.alloc _, by rw [e]; exact hblk7, hbm6⟩
                    case measure => simp [intOf]; omega
                · have hkn : k = n := by omega
                  have HK : Hid (topsTo l k = topsOf l) := by show _ = _; unfold topsOf; rw [hkn, hxl.out]
                  have HX0 : Hid (openErr l = if 1 < (topsOf l).length then 25 else 0) := by
                    show _ = _
                    unfold openErr
                    rw [if_neg (by rw [hxl.out]; exact h0), if_neg (by rw [hxl.out]; omega), if_neg (by rw [HE1.out]; simp), if_neg (by simpa using HD.out), if_neg (by rw [HC.out]; simp)]
                  clear hkn
                  by_cases hto : (1 : Int) < ((topsTo l k).length : Int)
                  · go_wp2
                    go_ret2
                    have hop : openErr l = 25 := by rw [HX0.out, ← HK.out, if_pos (by omega)]
                    exact ⟨hbel6, fun _ => by rw [hop]; rfl, fun h => absurd h (by rw [hop]; decide)⟩
                  · go_wp2
                    go_ret2
                    have hop : openErr l = 0 := by rw [HX0.out, ← HK.out, if_neg (by omega)]
                    refine ⟨hbel6, fun h => absurd hop h, fun _ => ⟨rfl, ?_, hmap6⟩⟩
                    unfold topOf
                    rw [← HK.out]
                    exact hblk6

end Go.Proofs.Ytfigbdhfmlhjdaa

end
