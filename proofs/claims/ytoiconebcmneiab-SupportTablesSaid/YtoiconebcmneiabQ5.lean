import Derived.Test.YtoiconebcmneiabQ3
import Derived.Test.YtoiconebcmneiabQ4
import Derived.Maps.OwnOps

section
/- The contract of the shares of the points below a thing. -/
namespace Go.Proofs.Ytoiconebcmneiab
open Go.RowKit

/-- The points below a thing; none: not within so many steps. -/
def pts (l : List Rk) : Nat → ByteArray → Option (List ByteArray)
  | 0, s => match idxOf l s with
    | none => some [s]
    | some _ => none
  | f + 1, s => match idxOf l s with
    | none => some [s]
    | some i => match l[i]? with
      | none => none
      | some r => match pts l f r.left, pts l f r.right with
        | some a, some b => some (a ++ b)
        | _, _ => none

def redN (a b : Int) : Int := a / (Int.gcd a b : Int)
def redD (a b : Int) : Int := b / (Int.gcd a b : Int)

def join2 (a b : Option (List (Int × Int))) : Option (List (Int × Int)) := match a, b with
  | some x, some y => some (x ++ y)
  | _, _ => none

/-- The shares of the points below a thing; none: one is not small. -/
def sh (l : List Rk) : Nat → ByteArray → Int → Int → Option (List (Int × Int))
  | 0, _, n, d => some [(n, d)]
  | f + 1, s, n, d => match idxOf l s with
    | none => some [(n, d)]
    | some i => match l[i]? with
      | none => none
      | some r => if smallB (n * r.ar) (d * (r.al + r.ar)) && smallB (n * r.al) (d * (r.al + r.ar)) then
          join2 (sh l f r.left (redN (n * r.ar) (d * (r.al + r.ar))) (redD (n * r.ar) (d * (r.al + r.ar)))) (sh l f r.right (redN (n * r.al) (d * (r.al + r.ar))) (redD (n * r.al) (d * (r.al + r.ar))))
        else none

theorem sh_length (l : List Rk) : ∀ (f : Nat) (s : ByteArray) (n d : Int) (ps : List ByteArray) (ys : List (Int × Int)), pts l f s = some ps → sh l f s n d = some ys → ys.length = ps.length := by
  intro f
  induction f with
  | zero =>
    intro s n d ps ys hp hs
    unfold pts at hp
    unfold sh at hs
    obtain rfl := Option.some.inj hs
    cases hx : idxOf l s with
    | none => rw [hx] at hp; obtain rfl := Option.some.inj hp; rfl
    | some i => rw [hx] at hp; cases hp
  | succ f ih =>
    intro s n d ps ys hp hs
    unfold pts at hp
    unfold sh at hs
    cases hx : idxOf l s with
    | none => rw [hx] at hp hs; obtain rfl := Option.some.inj hp; obtain rfl := Option.some.inj hs; rfl
    | some i =>
      rw [hx] at hp hs
      simp only at hp hs
      cases hr : l[i]? with
      | none => rw [hr] at hp; cases hp
      | some r =>
        rw [hr] at hp hs
        simp only at hp hs
        cases ha : pts l f r.left with
        | none => rw [ha] at hp; cases hp
        | some pa =>
          cases hb : pts l f r.right with
          | none => rw [ha, hb] at hp; cases hp
          | some pb =>
            rw [ha, hb] at hp
            obtain rfl := Option.some.inj hp
            split at hs
            · unfold join2 at hs
              split at hs
              · rename_i x y h1 h2
                obtain rfl := Option.some.inj hs
                rw [List.length_append, List.length_append, ih _ _ _ _ _ ha h1, ih _ _ _ _ _ hb h2]
              · cases hs
            · cases hs

theorem info_frac : (Try.prog.info? 53).map (fun i => (i.zero, i.size, i.bytes)) = some (some (.agg #[.int .i64 0, .int .i64 0]), 2, 16) := by kernel_rfl

/-- What a walk below a thing needs: the tree, its list, the cell to which is appended. -/
structure ShPre (l : List Rk) (A : Option Addr) (n c N tb mb ob : Nat) (top : Int) (v : Value) (out : List (Int × Int)) (w : World) : Prop where
  reads : Reads w N 5 A n (rkCells l)
  hN : N ≤ ob
  htb : tb < ob
  hmb : mb < ob
  tree : Blk w tb 131 #[.slice A n c, .map (some mb), .int .i64 top]
  map : MapIs Try.prog 9 w mb n (idxM l)
  cell : Blk w ob 49 #[v]
  own : w.ownsRow (ob + 1) 53 2 v out.length (cells2 out)

theorem ShPre.below {l : List Rk} {A : Option Addr} {n c N tb mb ob : Nat} {top : Int} {v : Value} {out : List (Int × Int)} {w w' : World} (h : ShPre l A n c N tb mb ob top v out w) (hb : Below w.heap.size w w') : ShPre l A n c N tb mb ob top v out w' :=
  ⟨h.reads.belowLe hb (by have := h.cell.lt; have := h.hN; omega), h.hN, h.htb, h.hmb, h.tree.below hb h.tree.lt, h.map.below hb h.map.lt, h.cell.below hb h.cell.lt, own_below h.own hb (Nat.le_refl _)⟩

def ShPost (l : List Rk) (A : Option Addr) (n c N tb mb ob : Nat) (top : Int) (v : Value) (out : List (Int × Int)) (w : World) (res : Option (List (Int × Int))) (e : Ending) (w' : World) : Prop :=
  ∃ v', Fr ob v v' w w' ∧ e = .returned (.bool res.isSome) ∧ Blk w' ob 49 #[v'] ∧ (∀ ys, res = some ys → ShPre l A n c N tb mb ob top v' (out ++ ys) w')

set_option maxHeartbeats 1000000 in
theorem shares_leaf (l : List Rk) (A : Option Addr) (n c N tb mb ob : Nat) (top : Int) (v : Value) (out : List (Int × Int)) (w : World) (h : ShPre l A n c N tb mb ob top v out w)
    (name : ByteArray) (hnm : name.size ≤ maxLen) (nn dd : Int) (hi : idxOf l name = none) (hout : out.length ≤ 1000000) :
    Calls Try.prog 84 #[.pointer (some ⟨tb, 0, none⟩), .string name, .agg #[.int .i64 nn, .int .i64 dd], .pointer (some ⟨ob, 0, none⟩)] w (ShPost l A n c N tb mb ob top v out w (some [(nn, dd)])) := by
  have hu : idxM l name = none := by unfold idxM; rw [hi]; rfl
  obtain ⟨i0, hi0, hz0, hz1, hz2⟩ := info_parts info_frac
  have hlt := h.cell.lt
  have t1 : (w.alloc (.cells #[.int .i64 nn, .int .i64 dd] 53)).cell? ⟨tb, 1, none⟩ = some (.map (some mb)) := (h.tree.alloc _).cell 1
  have hmap := h.map.alloc (.cells #[.int .i64 nn, .int .i64 dd] 53)
  have H := Lib.hid h
  clear h
  go_enter Try.func84, Try.ntmps84
  go_wp2_with (first | (at_lookup; refine wpList_look _ rfl _ _ _ rfl Try.underlying9 Try.underlying129 (zero_int _) hmap rfl _ rfl hnm ?_))
  have hbox : Blk (w.alloc (.cells #[.int .i64 nn, .int .i64 dd] 53)) w.heap.size 53 #[.int .i64 nn, .int .i64 dd] := Blk.new _ _ _
  have hcell := H.out.cell.alloc (.cells #[.int .i64 nn, .int .i64 dd] 53)
  have hown := H.out.own.alloc (.cells #[.int .i64 nn, .int .i64 dd] 53)
  obtain ⟨W0, hW0⟩ : ∃ W0, W0 = (w.alloc (.cells #[.int .i64 nn, .int .i64 dd] 53)).drewN 1 := ⟨_, rfl⟩
  have b0 : Blk W0 w.heap.size 53 #[.int .i64 nn, .int .i64 dd] := by rw [hW0]; exact hbox.drewN 1
  have d0 : Blk W0 ob 49 #[v] := by rw [hW0]; exact hcell.drewN 1
  have o0 : W0.ownsRow (ob + 1) 53 2 v out.length (cells2 out) := by rw [hW0]; exact own_drewN hown 1
  obtain ⟨W1, hW1⟩ : ∃ W1, W1 = W0.alloc (.cells #[.int .i64 nn, .int .i64 dd] 53) := ⟨_, rfl⟩
  have d1 : Blk W1 ob 49 #[v] := by rw [hW1]; exact d0.alloc _
  have o1 : W1.ownsRow (ob + 1) 53 2 v out.length (cells2 out) := by rw [hW1]; exact o0.alloc _
  have s1 : W1.heap.size = W0.heap.size + 1 := by rw [hW1]; simp
  have n1 : Blk W1 W0.heap.size 53 #[.int .i64 nn, .int .i64 dd] := by rw [hW1]; exact Blk.new _ _ _
  have r1 : Reads W1 W1.heap.size 2 (some ⟨W0.heap.size, 0, none⟩) 1 [.int .i64 nn, .int .i64 dd] := ⟨rfl, fun _ => ⟨_, 0, rfl, n1.lt, fun j u hu => by
    rw [Nat.zero_add, n1.cell j]; simpa using hu⟩⟩
  obtain ⟨v', W2, hrun, o2, hg2, hrow⟩ := run_append_any (P := Try.prog) W1 (ob + 1) 49 49 53 i0 _ 2 16 Try.underlying49 hi0 hz0 hz1 hz2 rfl (by omega) v out.length (cells2 out) o1 _ _ 1 1 _ r1 (by simp [Value.oneCell']) (by unfold maxLen; omega) (by omega) (by have := d0.lt; omega)
  obtain ⟨g2, cap2, rfl, _, _⟩ := o2.form (by omega)
  have HRUN := Lib.hid hrun
  have hvo : v.ownBlock ≠ some ob := fun e => by have := (own_lt o1 e).1; omega
  have d2 : Blk W2 ob 49 #[v] := d1.grown hg2 (fun e => hvo e.symm)
  have hv2o : (Value.slice (some ⟨g2, 0, none⟩) (out.length + 1) cap2).ownBlock ≠ some ob := by
    rcases hrow with e | e <;> rw [e]
    · exact hvo
    · intro e; have := d1.lt; simp at e; omega
  clear hrun hmap t1 hbox hcell hown hz0 hz1 hz2 hi0
  refine Fx.region (fun f w' => (w' = if f 8 then W2.setCell ⟨ob, 0, none⟩ (.slice (some ⟨g2, 0, none⟩) (out.length + 1) cap2) else if f 6 then W2 else if f 5 then W1 else W0) ∧ True) (by kernel_rfl) (by kernel_rfl) ?_ ?_
  · intro f hf0
    rw [hf0 8, hf0 6, hf0 5]; exact ⟨hW0.symm, trivial⟩
  repeat (first
    | (refine Fx.skip_ (by rfl) (fun f w h => h) ?_; simp only [Act.put, List.setIfInBounds_toArray, List.set_cons_zero, List.set_cons_succ])
    | (refine Fx.val_ ?_ (by rfl) ?_ (fun f w h => h) ?_
       rotate_left
       · intro f w' hD hk
         obtain ⟨jw, _⟩ := id hD
         clear hk hD jw
         go_simp
         try rfl
       simp only [Act.put, List.setIfInBounds_toArray, List.set_cons_zero, List.set_cons_succ]))
  refine Fx.val_ ?_ (by rfl) ?_ (fun f w h => h) ?_
  rotate_left
  · intro f w' hD hk
    obtain ⟨jw, _⟩ := id hD
    have h6 : f 6 = false := hk.2.1 6 (by kernel_rfl)
    have h8 : f 8 = false := hk.2.1 8 (by kernel_rfl)
    rw [h6, h8] at jw
    simp only [Bool.false_eq_true, if_false] at jw
    have cc : w'.cell? ⟨ob, 0, none⟩ = some v := by rw [jw]; split; exact d1.cell 0; exact d0.cell 0
    clear hk hD jw h6 h8
    go_simp
    try rfl
  simp only [Act.put, List.setIfInBounds_toArray, List.set_cons_zero, List.set_cons_succ]
  refine Fx.val_ ?_ (by rfl) ?_ (fun f w h => h) ?_
  rotate_left
  · intro f w' hD hk
    obtain ⟨jw, _⟩ := id hD
    have h5 : f 5 = false := hk.2.1 5 (by kernel_rfl)
    have h6 : f 6 = false := hk.un 6 5 (by kernel_rfl) h5
    have h8 : f 8 = false := hk.un 8 5 (by kernel_rfl) h5
    rw [h5, h6, h8] at jw
    simp only [Bool.false_eq_true, if_false] at jw
    have c0 : w'.cell? ⟨w.heap.size, 0, none⟩ = some (.int .i64 nn) := by rw [jw]; exact b0.cell 0
    have c1 : w'.cell? ⟨w.heap.size, 1, none⟩ = some (.int .i64 dd) := by rw [jw]; exact b0.cell 1
    clear hk hD jw h5 h6 h8
    go_simp
    try rfl
  simp only [Act.put, List.setIfInBounds_toArray, List.set_cons_zero, List.set_cons_succ]
  refine Fx.eff_ (.slice (some ⟨W0.heap.size, 0, none⟩) 1 1) (fun w' => W1) (by rfl) ?_ ?_ ?_
  · intro f w' hD hk
    obtain ⟨jw, _⟩ := id hD
    have h5 : f 5 = false := hk.1
    have h6 : f 6 = false := hk.un 6 5 (by kernel_rfl) h5
    have h8 : f 8 = false := hk.un 8 5 (by kernel_rfl) h5
    rw [h5, h6, h8] at jw
    simp only [Bool.false_eq_true, if_false] at jw
    subst jw
    clear hk hD
    rw [hW1]
    go_simp
  · intro f w' hD hk
    obtain ⟨jw, _⟩ := id hD
    have h5 : f 5 = false := hk.1
    have h6 : f 6 = false := hk.un 6 5 (by kernel_rfl) h5
    have h8 : f 8 = false := hk.un 8 5 (by kernel_rfl) h5
    rw [h5, h6, h8] at jw
    simp only [Bool.false_eq_true, if_false] at jw
    subst jw
    exact ⟨by simp [Fx.add, h6, h8], trivial⟩
  simp only [Act.put, List.setIfInBounds_toArray, List.set_cons_zero, List.set_cons_succ]
  refine Fx.eff_ (.slice (some ⟨g2, 0, none⟩) (out.length + 1) cap2) (fun w' => W2) (by rfl) ?_ ?_ ?_
  · intro f w' hD hk
    obtain ⟨jw, _⟩ := id hD
    have h5 : f 5 = true := hk.2.2.1 5 (by kernel_rfl)
    have h6 : f 6 = false := hk.1
    have h8 : f 8 = false := hk.un 8 6 (by kernel_rfl) h6
    rw [h5, h6, h8] at jw
    simp only [Bool.false_eq_true, if_false, if_true] at jw
    subst jw
    exact exec_append (.tmp 31) (.tmp 33) _ rfl HRUN.out
  · intro f w' hD hk
    obtain ⟨jw, _⟩ := id hD
    have h5 : f 5 = true := hk.2.2.1 5 (by kernel_rfl)
    have h6 : f 6 = false := hk.1
    have h8 : f 8 = false := hk.un 8 6 (by kernel_rfl) h6
    rw [h5, h6, h8] at jw
    simp only [Bool.false_eq_true, if_false, if_true] at jw
    subst jw
    exact ⟨by simp [Fx.add, h8], trivial⟩
  simp only [Act.put, List.setIfInBounds_toArray, List.set_cons_zero, List.set_cons_succ]
  repeat (first
    | (refine Fx.skip_ (by rfl) (fun f w h => h) ?_; simp only [Act.put, List.setIfInBounds_toArray, List.set_cons_zero, List.set_cons_succ])
    | (refine Fx.val_ ?_ (by rfl) ?_ (fun f w h => h) ?_
       rotate_left
       · intro f w' hD hk
         obtain ⟨jw, _⟩ := id hD
         clear hk hD jw
         go_simp
         try rfl
       simp only [Act.put, List.setIfInBounds_toArray, List.set_cons_zero, List.set_cons_succ]))
  refine Fx.store_ (fun w' => W2.setCell ⟨ob, 0, none⟩ (.slice (some ⟨g2, 0, none⟩) (out.length + 1) cap2)) (by rfl) ?_ ?_ ?_
  · intro f w' hD hk
    obtain ⟨jw, _⟩ := id hD
    have h6 : f 6 = true := hk.2.2.1 6 (by kernel_rfl)
    have h8 : f 8 = false := hk.1
    rw [h6, h8] at jw
    simp only [Bool.false_eq_true, if_false, if_true] at jw
    subst jw
    have cc : w'.cell? ⟨ob, 0, none⟩ = some v := d2.cell 0
    have zz := d2.frozen 0
    clear hk hD
    go_simp
  · intro f w' hD hk
    obtain ⟨jw, _⟩ := id hD
    have h6 : f 6 = true := hk.2.2.1 6 (by kernel_rfl)
    have h8 : f 8 = false := hk.1
    rw [h6, h8] at jw
    simp only [Bool.false_eq_true, if_false, if_true] at jw
    subst jw
    exact ⟨by simp [Fx.add], trivial⟩
  simp only [Act.put, List.setIfInBounds_toArray, List.set_cons_zero, List.set_cons_succ]
  refine Fx.nil_ ?_
  intro f w1 hall hD
  have hf8 := hall 8 (by simp)
  obtain ⟨jw, _⟩ := hD
  simp only [hf8, if_true] at *
  subst jw
  try clear hall
  go_wp2
  go_ret
  have hbelow : Below w.heap.size w W0 := by rw [hW0]; exact below_drewN ((Below.refl _ _).alloc (Nat.le_refl _) _) 1
  have hb1 : Below w.heap.size w W1 := by rw [hW1]; exact hbelow.alloc hbelow.size _
  have hv : ∀ g, v.ownBlock = some g → ob + 1 ≤ g ∧ g < w.heap.size := fun g hg => own_lt H.out.own hg
  have hs2 := hg2.size
  have hs1 := hb1.size
  have hsz0 := hbelow.size
  have ho2 : (W2.setCell ⟨ob, 0, none⟩ (.slice (some ⟨g2, 0, none⟩) (out.length + 1) cap2)).ownsRow (ob + 1) 53 2 (.slice (some ⟨g2, 0, none⟩) (out.length + 1) cap2) (out ++ [(nn, dd)]).length (cells2 (out ++ [(nn, dd)])) := by
    rw [List.length_append, cells2_append]
    exact own_set o2 hv2o _
  have hfr : Fr ob v (.slice (some ⟨g2, 0, none⟩) (out.length + 1) cap2) w (W2.setCell ⟨ob, 0, none⟩ (.slice (some ⟨g2, 0, none⟩) (out.length + 1) cap2)) := by
    refine ⟨hg2.os.trans hb1.os, hg2.tape.trans hb1.tape, hg2.output.trans hb1.output, by simp [World.setCell]; omega, fun k hk hne hvk => ?_, ?_⟩
    · rw [Below.heap_setCell _ _ _ _ hne, hg2.block k (by omega) (fun e => hvk e.symm), hb1.block k hk]
    · rcases hrow with e | e
      · exact .inl e
      · exact .inr ⟨_, e, by omega⟩
  have hbb : Below ob w (W2.setCell ⟨ob, 0, none⟩ (.slice (some ⟨g2, 0, none⟩) (out.length + 1) cap2)) := hfr.below (Nat.le_refl _) (by omega) (fun g hg => by have := (hv g hg).1; omega)
  refine ⟨_, hfr, rfl, d2.set_ 0 _, fun ys hys => ?_⟩
  obtain rfl := Option.some.inj hys
  exact ⟨H.out.reads.belowLe hbb H.out.hN, H.out.hN, H.out.htb, H.out.hmb, H.out.tree.below hbb H.out.htb, H.out.map.below hbb H.out.hmb, d2.set_ 0 _, ho2⟩

/-- Arms are from 1 to 10000. -/
def ArmsOK (l : List Rk) : Prop := ∀ r ∈ l, 1 ≤ r.al ∧ r.al ≤ 10000 ∧ 1 ≤ r.ar ∧ r.ar ≤ 10000
/-- A part of a fraction. -/
def Part (x : Int) : Prop := 1 ≤ x ∧ x ≤ 1000000000

theorem red_part {a b : Int} (ha : 1 ≤ a) (hb : 1 ≤ b) (h : smallB a b = true) : Part (redN a b) ∧ Part (redD a b) := by
  unfold smallB at h
  rw [Bool.and_eq_true, withinB_iff, decide_eq_true_iff] at h
  have hg : 0 < Int.gcd a b := Int.gcd_pos_of_ne_zero_left b (by omega)
  have d1 : (Int.gcd a b : Int) ∣ a := Int.gcd_dvd_left a b
  have d2 : (Int.gcd a b : Int) ∣ b := Int.gcd_dvd_right a b
  have p1 : 0 < a / (Int.gcd a b : Int) := Int.ediv_pos_of_pos_of_dvd (by omega) (by omega) d1
  have p2 : 0 < b / (Int.gcd a b : Int) := Int.ediv_pos_of_pos_of_dvd (by omega) (by omega) d2
  exact ⟨⟨by unfold redN; omega, h.1.2⟩, ⟨by unfold redD; omega, h.2⟩⟩

theorem small_red (a b : Int) (w : World) (h1 : -9223372036854775808 < a) (h2 : a ≤ 9223372036854775807) (h3 : 1 ≤ b) (h4 : b ≤ 9223372036854775807) :
    Calls Try.prog 93 #[.int .i64 a, .int .i64 b] w fun e w' => e = .returned (.tuple #[.agg #[.int .i64 (redN a b), .int .i64 (redD a b)], .bool (smallB a b)]) ∧ Below w.heap.size w w' := small_any a b w h1 h2 h3 h4

theorem ret_bool' {a b : Bool} (h : a = b) : Ending.returned (.bool a) = .returned (.bool b) := by rw [h]

set_option maxRecDepth 100000 in
set_option maxHeartbeats 2000000 in
theorem shares_any (l : List Rk) (hfits : ∀ r ∈ l, r.Fits) (harms : ArmsOK l) (A : Option Addr) (n c N tb mb ob : Nat) (top : Int) (hn : n ≤ 1000000) :
    ∀ (f : Nat) (name : ByteArray) (ps : List ByteArray) (nn dd : Int) (v : Value) (out : List (Int × Int)) (w : World), pts l f name = some ps → name.size ≤ maxLen → Part nn → Part dd →
      ShPre l A n c N tb mb ob top v out w → out.length + ps.length ≤ 1000000 →
      Calls Try.prog 84 #[.pointer (some ⟨tb, 0, none⟩), .string name, .agg #[.int .i64 nn, .int .i64 dd], .pointer (some ⟨ob, 0, none⟩)] w (ShPost l A n c N tb mb ob top v out w (sh l f name nn dd)) := by
  intro f
  induction f with
  | zero =>
    intro name ps nn dd v out w hp hnm hnn hdd h hlen
    have hi : idxOf l name = none := by
      unfold pts at hp
      cases hx : idxOf l name with
      | none => rfl
      | some i => rw [hx] at hp; cases hp
    unfold sh
    exact shares_leaf l A n c N tb mb ob top v out w h name hnm nn dd hi (by omega)
  | succ f ih =>
    intro name ps nn dd v out w hp hnm hnn hdd h hlen
    cases hi : idxOf l name with
    | none =>
      unfold sh
      rw [hi]
      exact shares_leaf l A n c N tb mb ob top v out w h name hnm nn dd hi (by omega)
    | some i =>
      unfold pts at hp
      rw [hi] at hp
      simp only at hp
      cases hr : l[i]? with
      | none => rw [hr] at hp; cases hp
      | some r =>
        rw [hr] at hp
        simp only at hp
        cases ha : pts l f r.left with
        | none => rw [ha] at hp; cases hp
        | some pa =>
          cases hb : pts l f r.right with
          | none => rw [ha, hb] at hp; cases hp
          | some pb =>
            rw [ha, hb] at hp
            obtain rfl := Option.some.inj hp
            rw [List.length_append] at hlen
            have hmem := List.mem_of_getElem? hr
            have hfit := hfits r hmem
            obtain ⟨al1, al2, ar1, ar2⟩ := harms r hmem
            have hin : i < n := by
              have := (List.getElem?_eq_some_iff.1 hr).1
              rw [h.reads.len5] at this; exact this
            obtain ⟨xb, xo, r', rfl, hxb, hr', c0, c1, c2, c3, c4⟩ := h.reads.rk hin
            obtain rfl := Option.some.inj (hr'.symm.trans hr)
            have hsh : sh l (f + 1) name nn dd = if smallB (nn * r'.ar) (dd * (r'.al + r'.ar)) && smallB (nn * r'.al) (dd * (r'.al + r'.ar)) then
                join2 (sh l f r'.left (redN (nn * r'.ar) (dd * (r'.al + r'.ar))) (redD (nn * r'.ar) (dd * (r'.al + r'.ar)))) (sh l f r'.right (redN (nn * r'.al) (dd * (r'.al + r'.ar))) (redD (nn * r'.al) (dd * (r'.al + r'.ar))))
              else none := by rw [sh, hi]; simp only [hr]
            have hu0 : idxM l name = some (.int .i64 (i : Int)) := by unfold idxM; rw [hi]; rfl
            have HA := Lib.hid ha
            have HBp := Lib.hid hb
            have HSH := Lib.hid hsh
            clear hsh hr' hr hi ha hb hmem
            obtain ⟨nn1, nn2⟩ := hnn
            obtain ⟨dd1, dd2⟩ := hdd
            have m1 : 1 ≤ nn * r'.ar ∧ nn * r'.ar ≤ 1000000000 * 10000 := ⟨by have := Int.mul_le_mul nn1 ar1 (by omega) (by omega); omega, Int.mul_le_mul nn2 ar2 (by omega) (by omega)⟩
            have m2 : 1 ≤ nn * r'.al ∧ nn * r'.al ≤ 1000000000 * 10000 := ⟨by have := Int.mul_le_mul nn1 al1 (by omega) (by omega); omega, Int.mul_le_mul nn2 al2 (by omega) (by omega)⟩
            have m3 : 1 ≤ dd * (r'.al + r'.ar) ∧ dd * (r'.al + r'.ar) ≤ 1000000000 * 20000 := ⟨by have := Int.mul_le_mul dd1 (show 1 ≤ r'.al + r'.ar by omega) (by omega) (by omega); omega, Int.mul_le_mul dd2 (by omega) (by omega) (by omega)⟩
            have hu : idxM l name = some (.int .i64 (i : Int)) := hu0
            have t1 : (w.alloc (.cells #[.int .i64 nn, .int .i64 dd] 53)).cell? ⟨tb, 1, none⟩ = some (.map (some mb)) := (h.tree.alloc _).cell 1
            have t0 : (w.alloc (.cells #[.int .i64 nn, .int .i64 dd] 53)).cell? ⟨tb, 0, none⟩ = some (.slice (some ⟨xb, xo, none⟩) n c) := (h.tree.alloc _).cell 0
            have hmap := h.map.alloc (.cells #[.int .i64 nn, .int .i64 dd] 53)
            have hw := h.cell.lt
            have hN := h.hN
            have H := Lib.hid h
            have IH := Lib.hid ih
            clear h ih
            have x0 := (World.cell?_alloc_lt w (.cells #[.int .i64 nn, .int .i64 dd] 53) ⟨xb, xo + i * 5, none⟩ (by simp; omega)).trans c0
            have x1 := (World.cell?_alloc_lt w (.cells #[.int .i64 nn, .int .i64 dd] 53) ⟨xb, xo + i * 5 + 1, none⟩ (by simp; omega)).trans c1
            have x2 := (World.cell?_alloc_lt w (.cells #[.int .i64 nn, .int .i64 dd] 53) ⟨xb, xo + i * 5 + 2, none⟩ (by simp; omega)).trans c2
            have x3 := (World.cell?_alloc_lt w (.cells #[.int .i64 nn, .int .i64 dd] 53) ⟨xb, xo + i * 5 + 3, none⟩ (by simp; omega)).trans c3
            have x4 := (World.cell?_alloc_lt w (.cells #[.int .i64 nn, .int .i64 dd] 53) ⟨xb, xo + i * 5 + 4, none⟩ (by simp; omega)).trans c4
            clear c0 c1 c2 c3 c4
            go_enter Try.func84, Try.ntmps84
            go_wp2_with (first | (at_lookup; refine wpList_look _ rfl _ _ _ rfl Try.underlying9 Try.underlying129 (zero_int _) hmap rfl _ rfl hnm ?_))
            refine (small_red _ _ _ (by omega) (by omega) (by omega) (by omega)).mono ?_
            rintro e w1 ⟨rfl, hb1⟩
            have kb : Blk w1 w.heap.size 53 #[.int .i64 nn, .int .i64 dd] := Blk.below ((Blk.at_ w rfl _ _).alloc _) hb1 (by first | (simp; done) | (simp; omega))
            have kr : Blk w1 (w.heap.size + 1) 90 #[.string r'.name, .string r'.left, .string r'.right, .int .i64 r'.al, .int .i64 r'.ar] := Blk.below (Blk.at_ _ (by simp) _ _) hb1 (by first | (simp; done) | (simp; omega))
            simp only [World.size_alloc] at hb1
            have q1 : Below w.heap.size w w1 := (((Below.refl _ _).alloc (Nat.le_refl _) _).alloc (by simp) _).trans (hb1.mono (by omega))
            have z1 := hb1.size
            simp only [World.size_alloc] at z1
            clear hb1
            have y0 : ∀ o, (w1.alloc o).cell? ⟨w.heap.size, 0, none⟩ = some (.int .i64 nn) := fun o => (kb.alloc o).cell 0
            have y1 : ∀ o, (w1.alloc o).cell? ⟨w.heap.size, 1, none⟩ = some (.int .i64 dd) := fun o => (kb.alloc o).cell 1
            have y2 : ∀ o, (w1.alloc o).cell? ⟨w.heap.size + 1, 3, none⟩ = some (.int .i64 r'.al) := fun o => (kr.alloc o).cell 3
            go_wp2_with fail
            refine (small_red _ _ _ (by omega) (by omega) (by omega) (by omega)).mono ?_
            rintro e w2 ⟨rfl, hb2⟩
            have ll : Blk w2 w1.heap.size 53 #[.int .i64 (redN (nn * r'.ar) (dd * (r'.al + r'.ar))), .int .i64 (redD (nn * r'.ar) (dd * (r'.al + r'.ar)))] := Blk.below (Blk.at_ _ rfl _ _) hb2 (by first | (simp; done) | (simp; omega))
            have kr2 : Blk w2 (w.heap.size + 1) 90 #[.string r'.name, .string r'.left, .string r'.right, .int .i64 r'.al, .int .i64 r'.ar] := Blk.below (kr.alloc _) hb2 (by first | (simp; done) | (simp; omega))
            simp only [World.size_alloc] at hb2
            have q2 : Below w.heap.size w w2 := (q1.alloc q1.size _).trans (hb2.mono (by omega))
            have z2 := hb2.size
            simp only [World.size_alloc] at z2
            clear hb2 kb y0 y1 y2 kr
            have Q2 := Lib.hid q2
            clear q1 q2
            have l0 : ∀ o, (w2.alloc o).cell? ⟨w1.heap.size, 0, none⟩ = some (.int .i64 (redN (nn * r'.ar) (dd * (r'.al + r'.ar)))) := fun o => (ll.alloc o).cell 0
            have l1 : ∀ o, (w2.alloc o).cell? ⟨w1.heap.size, 1, none⟩ = some (.int .i64 (redD (nn * r'.ar) (dd * (r'.al + r'.ar)))) := fun o => (ll.alloc o).cell 1
            have y1 : ∀ o, (w2.alloc o).cell? ⟨w.heap.size + 1, 1, none⟩ = some (.string r'.left) := fun o => (kr2.alloc o).cell 1
            by_cases s1 : smallB (nn * r'.ar) (dd * (r'.al + r'.ar)) = true
            rotate_left
            · have hno : sh l (f + 1) name nn dd = none := by rw [HSH.out, if_neg (by simp [s1])]
              have HNO := Lib.hid hno
              clear hno
              go_wp2_with fail
              go_ret
              exact ⟨v, Fr.of_below (Q2.out.alloc Q2.out.size _), by rw [HNO.out]; rfl, H.out.cell.below (Q2.out.alloc Q2.out.size _) H.out.cell.lt, fun ys hys => by rw [HNO.out] at hys; cases hys⟩
            · by_cases s2 : smallB (nn * r'.al) (dd * (r'.al + r'.ar)) = true
              rotate_left
              · have hno : sh l (f + 1) name nn dd = none := by rw [HSH.out, if_neg (by simp [s2])]
                have HNO := Lib.hid hno
                clear hno
                go_wp2_with fail
                go_ret
                exact ⟨v, Fr.of_below (Q2.out.alloc Q2.out.size _), by rw [HNO.out]; rfl, H.out.cell.below (Q2.out.alloc Q2.out.size _) H.out.cell.lt, fun ys hys => by rw [HNO.out] at hys; cases hys⟩
              · have hyes := HSH.out
                rw [if_pos (by simp [s1, s2])] at hyes
                have P1 := red_part m1.1 m3.1 s1
                have P2 := red_part m2.1 m3.1 s2
                have HYES := Lib.hid hyes
                have HP1 := Lib.hid P1
                have HP2 := Lib.hid P2
                clear P1 P2 hyes
                go_wp2_with fail
                refine (IH.out r'.left pa _ _ v out _ HA.out hfit.left HP1.out.1 HP1.out.2 (H.out.below (Q2.out.alloc Q2.out.size _)) (by omega)).mono ?_
                rintro e w4 ⟨v1, fr1, rfl, cell1, hpre1⟩
                have hrow : ∀ g, v.ownBlock = some g → g < w.heap.size := fun g hg => (own_lt H.out.own hg).2
                have rb : Blk w4 w2.heap.size 53 #[.int .i64 (redN (nn * r'.al) (dd * (r'.al + r'.ar))), .int .i64 (redD (nn * r'.al) (dd * (r'.al + r'.ar)))] := fr1.blk (Blk.at_ _ rfl _ _) (by omega) (fun e => by have := hrow _ e; omega)
                have kr4 : Blk w4 (w.heap.size + 1) 90 #[.string r'.name, .string r'.left, .string r'.right, .int .i64 r'.al, .int .i64 r'.ar] := fr1.blk (kr2.alloc _) (by omega) (fun e => by have := hrow _ e; omega)
                have fr1' : Fr ob v v1 w w4 := (Fr.of_below (Q2.out.alloc Q2.out.size _)).trans fr1
                have FR1 := Lib.hid fr1'
                have HPRE := Lib.hid hpre1
                clear fr1 fr1' hpre1 l0 l1 y1
                have y2 : w4.cell? ⟨w.heap.size + 1, 2, none⟩ = some (.string r'.right) := kr4.cell 2
                have y3 : w4.cell? ⟨w2.heap.size, 0, none⟩ = some (.int .i64 (redN (nn * r'.al) (dd * (r'.al + r'.ar)))) := rb.cell 0
                have y4 : w4.cell? ⟨w2.heap.size, 1, none⟩ = some (.int .i64 (redD (nn * r'.al) (dd * (r'.al + r'.ar)))) := rb.cell 1
                cases hl : sh l f r'.left (redN (nn * r'.ar) (dd * (r'.al + r'.ar))) (redD (nn * r'.ar) (dd * (r'.al + r'.ar))) with
                | none =>
                  have hno : sh l (f + 1) name nn dd = none := by rw [HYES.out, hl]; rfl
                  have HNO := Lib.hid hno
                  clear hno hl
                  simp only [Option.isSome_none]
                  go_wp2_with fail
                  go_ret
                  exact ⟨v1, FR1.out, by rw [HNO.out]; rfl, cell1, fun ys hys => by rw [HNO.out] at hys; cases hys⟩
                | some ys1 =>
                  have hlen1 := sh_length l f _ _ _ _ _ HA.out hl
                  have hyes2 := HYES.out
                  rw [hl] at hyes2
                  have HY2 := Lib.hid hyes2
                  have hpre2 := HPRE.out ys1 hl
                  have HPRE2 := Lib.hid hpre2
                  clear hyes2 hpre2 hl HPRE
                  simp only [Option.isSome_some]
                  go_wp2_with fail
                  refine (IH.out r'.right pb _ _ v1 (out ++ ys1) _ HBp.out hfit.right HP2.out.1 HP2.out.2 HPRE2.out (by rw [List.length_append]; omega)).mono ?_
                  rintro e w5 ⟨v2, fr2, rfl, cell2, hpre5⟩
                  have FR2 := Lib.hid (FR1.out.trans fr2)
                  have HPRE5 := Lib.hid hpre5
                  clear fr2 hpre5
                  go_wp2_with fail
                  go_ret
                  refine ⟨v2, FR2.out, ?_, cell2, fun ys hys => ?_⟩
                  · rw [HY2.out]
                    cases sh l f r'.right (redN (nn * r'.al) (dd * (r'.al + r'.ar))) (redD (nn * r'.al) (dd * (r'.al + r'.ar))) <;> rfl
                  · rw [HY2.out] at hys
                    cases hrr : sh l f r'.right (redN (nn * r'.al) (dd * (r'.al + r'.ar))) (redD (nn * r'.al) (dd * (r'.al + r'.ar))) with
                    | none => rw [hrr] at hys; cases hys
                    | some ys2 =>
                      rw [hrr] at hys
                      obtain rfl : ys1 ++ ys2 = ys := Option.some.inj hys
                      rw [← List.append_assoc]
                      exact HPRE5.out ys2 hrr

end Go.Proofs.Ytoiconebcmneiab

end

section
/- What is owned, or a block of its own, reads as a list. -/
namespace Go.Proofs.Ytoiconebcmneiab
open Go.RowKit

theorem Blk.reads {w : World} {g n size : Nat} {t : TypeId} {xs : List Value} (h : Blk w g t xs.toArray) (hl : xs.length = n * size) : Reads w w.heap.size size (some ⟨g, 0, none⟩) n xs :=
  ⟨hl, fun _ => ⟨g, 0, rfl, h.lt, fun j u hu => by rw [Nat.zero_add, h.cell j]; simpa using hu⟩⟩

theorem Reads.of_adds' {w : World} {B n size : Nat} {g : Nat} {xs : List Value} (hl : xs.length = n * size) (hb : g < B) (hc : ∀ j u, xs[j]? = some u → w.cell? ((⟨g, 0, none⟩ : Addr).add j) = some u) : Reads w B size (some ⟨g, 0, none⟩) n xs :=
  ⟨hl, fun _ => ⟨g, 0, rfl, hb, fun j u hu => by have := hc j u hu; rwa [add_lit] at this⟩⟩

theorem own_base {w : World} {base base' : Nat} {e : TypeId} {size n : Nat} {v : Value} {xs : List Value} (hb : base ≤ base') (h : w.ownsRow base' e size v n xs) : w.ownsRow base e size v n xs := by
  obtain ⟨h1, h2⟩ := h
  exact ⟨h1, h2.imp id fun ⟨g, cap, cur, hv, hg, r⟩ => ⟨g, cap, cur, hv, by omega, r⟩⟩

theorem own_reads {w : World} {base n size : Nat} {e : TypeId} {v : Value} {xs : List Value} (h : w.ownsRow base e size v n xs) : ∃ A c, v = .slice A n c ∧ Reads w w.heap.size size A n xs := by
  have hc := @World.ownsRow.cells _ _ _ _ _ _ _ h
  obtain ⟨h1, h2⟩ := h
  rcases h2 with ⟨rfl, rfl⟩ | ⟨g, cap, cur, rfl, hg, hh, _⟩
  · exact ⟨none, 0, rfl, h1, fun hn => absurd hn (by simp)⟩
  · refine ⟨some ⟨g, 0, none⟩, cap, rfl, Reads.of_adds' h1 (Array.getElem?_eq_some_iff.1 hh).1 (hc rfl)⟩

section
variable {P : Program} {ops : Array Oper} {Q : Exit → Act → World → Prop} {o : Oper} {rest : List Oper} {a : Act}
/-- A call of append whose run is known. -/
theorem wpList_app (w w' : World) (v' : Value) (hg : o.guard = none) (s x : Operand) (t : TypeId) (hop : o.op = .call { callee := .builtin .append, args := #[s, x], argTypes := #[t, t] }) (sv xv : Value) (hs : a.eval s = sv) (hx : a.eval x = xv)
    (hrun : (Builtin.append_ #[t, t] o.type #[sv, xv]).run P w = .ok v' w') (hK : wpList P ops Q rest (a.put o.dst v') w') : wpList P ops Q (o :: rest) a w := by
  refine wpList_plain hg fun K' hK' => ?_
  subst hs hx
  unfold Oper.wp
  rw [exec_append s x t hop hrun]
  exact hK' _ _ hK
end

end Go.Proofs.Ytoiconebcmneiab

end

section
/- The contracts of all shares of a tree, and of Shares. -/
namespace Go.Proofs.Ytoiconebcmneiab
open Go.RowKit

/-- The name of the top. -/
def topName (l : List Rk) : ByteArray := ((l[topOf l]?).map (·.name)).getD ByteArray.empty
def sharesOf (l : List Rk) : Option (List (Int × Int)) := sh l l.length (topName l) 1 1

def AllPost (l : List Rk) (base : Nat) (w : World) (e : Ending) (w' : World) : Prop :=
  Below w.heap.size w w' ∧ ∃ v', e = .returned (.tuple #[v', .bool (sharesOf l).isSome]) ∧ ∀ ys, sharesOf l = some ys → w'.ownsRow base 53 2 v' ys.length (cells2 ys)

theorem below_iff_block {B : Nat} {w w' : World} (h : Below B w w') {B' : Nat} (hB : B' ≤ B) : Below B' w w' := h.mono hB

set_option maxRecDepth 100000 in
set_option maxHeartbeats 1000000 in
theorem all_any (l : List Rk) (hfits : ∀ r ∈ l, r.Fits) (harms : ArmsOK l) (A : Option Addr) (n c N tb mb : Nat) (w : World) (hn : n ≤ 100000) (hx : Reads w N 5 A n (rkCells l)) (hN : N ≤ w.heap.size)
    (ht : Blk w tb 131 #[.slice A n c, .map (some mb), .int .i64 (topOf l : Int)]) (hm : MapIs Try.prog 9 w mb n (idxM l)) (htop : topOf l < l.length) (ps : List ByteArray) (hp : pts l l.length (topName l) = some ps) (hps : ps.length ≤ 1000000) :
    Calls Try.prog 47 #[.pointer (some ⟨tb, 0, none⟩)] w (AllPost l (w.heap.size + 1) w) := by
  have hln := hx.len5
  have hti : topOf l < n := by omega
  obtain ⟨xb, xo, r, rfl, hxb, hr, c0, c1, c2, c3, c4⟩ := hx.rk hti
  have hfit := hfits r (List.mem_of_getElem? hr)
  have hnm := hfit.name
  have htn : topName l = r.name := by unfold topName; rw [hr]; rfl
  have hsh : sharesOf l = sh l l.length r.name 1 1 := by unfold sharesOf; rw [htn]
  rw [htn] at hp
  obtain ⟨T, hT⟩ : ∃ T, topOf l = T := ⟨_, rfl⟩
  rw [hT] at ht hti hr c0
  have HP := Lib.hid hp
  have HSH := Lib.hid hsh
  have htb := ht.lt
  have hmb := hm.lt
  clear hp hsh htn c1 c2 c3 c4 htop
  have HX := Lib.hid hx
  clear hx hln hr hfit hT
  go_enter Try.func47, Try.ntmps47
  go_wp2
  refine Fx.regionW (fun W f w' => Blk w' tb 131 #[.slice (some ⟨xb, xo, none⟩) n c, .map (some mb), .int .i64 (T : Int)] ∧ w'.cell? ⟨xb, xo + T * 5, none⟩ = some (.string r.name) ∧ (f 13 = false → w' = W.drewN 1) ∧ (f 13 = true → Below w.heap.size w w' ∧ ∃ v', Blk w' w.heap.size 49 #[v'] ∧ ∀ ys, sh l l.length r.name 1 1 = some ys → w'.ownsRow (w.heap.size + 1) 53 2 v' ys.length (cells2 ys))) (by kernel_rfl) (by kernel_rfl) ?_ ?_
  · intro f hf0
    refine ⟨(ht.alloc _).drewN 1, ?_, fun _ => rfl, fun h => by rw [hf0 13] at h; cases h⟩
    exact (World.cell?_alloc_lt w _ ⟨xb, xo + T * 5, none⟩ (by simp; omega)).trans c0
  repeat (first
    | (refine Fx.skip_ (by rfl) (fun f w h => h) ?_; simp only [Act.put, List.setIfInBounds_toArray, List.set_cons_zero, List.set_cons_succ])
    | (refine Fx.val_ ?_ (by rfl) ?_ (fun f w h => h) ?_
       rotate_left
       · intro f w' hD hk
         obtain ⟨h1, h2, h3, h4⟩ := id hD
         have t0 : w'.cell? ⟨tb, 0, none⟩ = some (.slice (some ⟨xb, xo, none⟩) n c) := h1.cell 0
         have t2 : w'.cell? ⟨tb, 2, none⟩ = some (.int .i64 (T : Int)) := h1.cell 2
         clear hk hD h1 h3 h4
         go_simp
         try rfl
       simp only [Act.put, List.setIfInBounds_toArray, List.set_cons_zero, List.set_cons_succ]))
  have hW : ∀ W', W' = (w.alloc (.cells #[.slice none 0 0] 49)).drewN 1 → ShPre l (some ⟨xb, xo, none⟩) n c N tb mb w.heap.size (T : Int) (.slice none 0 0) [] W' := by
    rintro _ rfl
    exact ⟨((HX.out.alloc hN _).drewN 1), by omega, by omega, by omega, (ht.alloc _).drewN 1, (hm.alloc _).drewN 1, (Blk.at_ _ rfl _ _).drewN 1, World.ownsRow_nil _ _ _ _⟩
  have HW := Lib.hid hW
  clear hW
  have hAfter : ∀ W1 w2 v', W1 = (w.alloc (.cells #[.slice none 0 0] 49)).drewN 1 → Fr w.heap.size (.slice none 0 0) v' W1 w2 → Blk w2 w.heap.size 49 #[v'] → (∀ ys, sh l l.length r.name 1 1 = some ys → ShPre l (some ⟨xb, xo, none⟩) n c N tb mb w.heap.size (T : Int) v' ([] ++ ys) w2) →
      Blk w2 tb 131 #[.slice (some ⟨xb, xo, none⟩) n c, .map (some mb), .int .i64 (T : Int)] ∧ w2.cell? ⟨xb, xo + T * 5, none⟩ = some (.string r.name) ∧ Below w.heap.size w w2 ∧ (∃ v', Blk w2 w.heap.size 49 #[v'] ∧ ∀ ys, sh l l.length r.name 1 1 = some ys → w2.ownsRow (w.heap.size + 1) 53 2 v' ys.length (cells2 ys)) := by
    rintro W1 w2 v' hW1 hfr hcell hpre
    have hb0 : Below w.heap.size w W1 := by rw [hW1]; exact below_drewN ((Below.refl _ _).alloc (Nat.le_refl _) _) 1
    have hb : Below w.heap.size W1 w2 := hfr.below (Nat.le_refl _) (by rw [hW1]; simp) (fun g hg => by cases hg)
    have hb2 := hb0.trans hb
    refine ⟨ht.below hb2 htb, (hb2.cell (p := ⟨xb, xo + T * 5, none⟩) (by show xb < _; omega)).trans c0, hb2, v', hcell, fun ys hys => ?_⟩
    have := (hpre ys hys).own
    rwa [List.nil_append] at this
  have HAFTER := Lib.hid hAfter
  clear hAfter
  refine Fx.call_ (.bool (sh l l.length r.name 1 1).isSome) ?_ ?_ (by rfl) ?_ ?_ ?_
  rotate_left 2
  · intro w'
    go_simp
    refine ⟨?_, ?_⟩ <;> rfl
  · intro f w' hD hk
    exact (shares_any l hfits harms (some ⟨xb, xo, none⟩) n c N tb mb w.heap.size (T : Int) (by omega) l.length r.name ps 1 1 (.slice none 0 0) [] w' HP.out hnm ⟨by omega, by omega⟩ ⟨by omega, by omega⟩ (HW.out w' (hD.2.2.1 hk.1)) (by simp; omega)).mono fun e w'' ⟨v', hfr, he, hcell, hpre⟩ => ⟨he, (HAFTER.out w' w'' v' (hD.2.2.1 hk.1) hfr hcell hpre).1, (HAFTER.out w' w'' v' (hD.2.2.1 hk.1) hfr hcell hpre).2.1, fun h => by simp [Fx.add] at h, fun _ => (HAFTER.out w' w'' v' (hD.2.2.1 hk.1) hfr hcell hpre).2.2⟩
  simp only [Act.put, List.setIfInBounds_toArray, List.set_cons_zero, List.set_cons_succ]
  clear HAFTER HW
  repeat (first
    | (refine Fx.skip_ (by rfl) (fun f w h => h) ?_; simp only [Act.put, List.setIfInBounds_toArray, List.set_cons_zero, List.set_cons_succ])
    | (refine Fx.val_ ?_ (by rfl) ?_ (fun f w h => h) ?_
       rotate_left
       · intro f w' hD hk
         obtain ⟨h1, h2, h3, h4⟩ := id hD
         have t0 : w'.cell? ⟨tb, 0, none⟩ = some (.slice (some ⟨xb, xo, none⟩) n c) := h1.cell 0
         have t2 : w'.cell? ⟨tb, 2, none⟩ = some (.int .i64 (T : Int)) := h1.cell 2
         clear hk hD h1 h3 h4
         go_simp
         try rfl
       simp only [Act.put, List.setIfInBounds_toArray, List.set_cons_zero, List.set_cons_succ]))
  refine Fx.nil_ ?_
  intro f w1 hall hD
  have hf13 := hall 13 (by simp)
  obtain ⟨h1, h2, h3, h4⟩ := hD
  simp only [hf13, if_true] at *
  try clear hall
  obtain ⟨hbl, v', hcl, hown⟩ := h4 (by first | rfl | trivial)
  have cc : w1.cell? ⟨w.heap.size, 0, none⟩ = some v' := hcl.cell 0
  have HOWN := Lib.hid hown
  have HB := Lib.hid hbl
  clear h1 h2 h3 h4 hown hbl
  go_wp2_with fail
  go_ret2
  refine ⟨HB.out, v', ?_, fun ys hys => HOWN.out ys (HSH.out.symm.trans hys)⟩
  rw [HSH.out]
  rfl

theorem rk_zero_arms {ex : Bool} {r : Rk} (h : rkErr ex r = 0) : 1 ≤ r.al ∧ r.al ≤ 10000 ∧ 1 ≤ r.ar ∧ r.ar ≤ 10000 := by
  unfold rkErr at h
  split at h
  · exact absurd h (by decide)
  · split at h
    · exact absurd h (by decide)
    · split at h
      · exact absurd h (by decide)
      · split at h
        · exact absurd h (by decide)
        · rename_i hw
          have h1 : withinB r.al 1 10000 = true := by cases hx : withinB r.al 1 10000 <;> simp_all
          have h2 : withinB r.ar 1 10000 = true := by cases hx : withinB r.ar 1 10000 <;> simp_all
          rw [withinB_iff] at h1 h2
          exact ⟨h1.1, h1.2, h2.1, h2.2⟩

theorem err1_mem : ∀ (l seen : List Rk), err1 seen l = 0 → ∀ r ∈ l, ∃ ex, rkErr ex r = 0
  | [], _, _, r, hr => by cases hr
  | x :: l, seen, h, r, hr => by
    unfold err1 at h
    split at h
    · rename_i h0
      rcases List.mem_cons.1 hr with e | e
      · exact ⟨_, e ▸ h0⟩
      · exact err1_mem l _ h r e
    · rename_i h0
      exact absurd h h0

theorem open_zero {l : List Rk} (h : openErr l = 0) : l.length ≠ 0 ∧ l.length ≤ 40 ∧ err1 [] l = 0 ∧ (borneAll l).Nodup ∧ l.any (fun r => climbs l (l.length + 1) r.name) = false ∧ (topsOf l).length ≤ 1 := by
  unfold openErr at h
  by_cases h0 : l.length = 0
  · rw [if_pos h0] at h; exact absurd h (by decide)
  rw [if_neg h0] at h
  by_cases h1 : 40 < l.length
  · rw [if_pos h1] at h; exact absurd h (by decide)
  rw [if_neg h1] at h
  by_cases h2 : err1 [] l ≠ 0
  · rw [if_pos h2] at h; exact absurd h h2
  rw [if_neg h2] at h
  by_cases h3 : ¬ (borneAll l).Nodup
  · rw [if_pos h3] at h; exact absurd h (by decide)
  rw [if_neg h3] at h
  by_cases h4 : l.any (fun r => climbs l (l.length + 1) r.name) = true
  · rw [if_pos h4] at h; exact absurd h (by decide)
  rw [if_neg h4] at h
  by_cases h5 : 1 < (topsOf l).length
  · rw [if_pos h5] at h; exact absurd h (by decide)
  exact ⟨h0, by omega, Decidable.not_not.1 h2, Decidable.not_not.1 h3, by simpa using h4, by omega⟩

theorem arms_of {l : List Rk} (h : openErr l = 0) : ArmsOK l := by
  intro r hr
  obtain ⟨ex, he⟩ := err1_mem l [] (open_zero h).2.2.1 r hr
  exact rk_zero_arms he

theorem topOf_lt {l : List Rk} (h : l.length ≠ 0) : topOf l < l.length := by
  unfold topOf
  cases hx : (topsOf l).getLast? with
  | none => simpa using by omega
  | some k =>
    have hm := List.mem_of_getLast? hx
    unfold topsOf topsTo at hm
    have := (List.mem_filter.1 hm).1
    simpa using this

/-- What lies below the top, as the tree of a list has it. -/
def ptsOf (l : List Rk) : Option (List ByteArray) := pts l l.length (topName l)

def SharesPost (l : List Rk) (base : Nat) (w : World) (e : Ending) (w' : World) : Prop :=
  Below w.heap.size w w' ∧ (openErr l ≠ 0 → e = .returned (.tuple #[.slice none 0 0, .int .i64 (openErr l)])) ∧
  (openErr l = 0 → sharesOf l = none → e = .returned (.tuple #[.slice none 0 0, .int .i64 8])) ∧
  (openErr l = 0 → ∀ ys, sharesOf l = some ys → ∃ v, e = .returned (.tuple #[v, .int .i64 0]) ∧ w'.ownsRow base 53 2 v ys.length (cells2 ys))

theorem open_bad (l : List Rk) (hf : ∀ r ∈ l, r.Fits) (A : Option Addr) (n c N : Nat) (w : World) (hx : Reads w N 5 A n (rkCells l)) (hN : N ≤ w.heap.size) (hn : n ≤ 9223372036854775807) (h : openErr l ≠ 0) :
    Calls Try.prog 66 #[.slice A n c] w fun e w' => e = .returned (.tuple #[.pointer none, .int .i64 (openErr l)]) ∧ Below w.heap.size w w' :=
  (open_any l hf A n c N w hx hN hn).mono fun _ _ ⟨hb, h1, _⟩ => ⟨h1 h, hb⟩

theorem open_ok (l : List Rk) (hf : ∀ r ∈ l, r.Fits) (A : Option Addr) (n c N : Nat) (w : World) (hx : Reads w N 5 A n (rkCells l)) (hN : N ≤ w.heap.size) (hn : n ≤ 9223372036854775807) (h : openErr l = 0) :
    Calls Try.prog 66 #[.slice A n c] w fun e w' => e = .returned (.tuple #[.pointer (some ⟨w.heap.size + 1, 0, none⟩), .int .i64 0]) ∧ Below w.heap.size w w' ∧
      Blk w' (w.heap.size + 1) 131 #[.slice A n c, .map (some w.heap.size), .int .i64 (topOf l : Int)] ∧ MapIs Try.prog 9 w' w.heap.size n (idxM l) :=
  (open_any l hf A n c N w hx hN hn).mono fun _ _ ⟨hb, _, h1⟩ => ⟨(h1 h).1, hb, (h1 h).2⟩

theorem all_none (l : List Rk) (hfits : ∀ r ∈ l, r.Fits) (harms : ArmsOK l) (A : Option Addr) (n c N tb mb : Nat) (w : World) (hn : n ≤ 100000) (hx : Reads w N 5 A n (rkCells l)) (hN : N ≤ w.heap.size)
    (ht : Blk w tb 131 #[.slice A n c, .map (some mb), .int .i64 (topOf l : Int)]) (hm : MapIs Try.prog 9 w mb n (idxM l)) (htop : topOf l < l.length) (ps : List ByteArray) (hp : pts l l.length (topName l) = some ps) (hps : ps.length ≤ 1000000) (hs : sharesOf l = none) :
    Calls Try.prog 47 #[.pointer (some ⟨tb, 0, none⟩)] w fun e w' => Below w.heap.size w w' ∧ ∃ v', e = .returned (.tuple #[v', .bool false]) :=
  (all_any l hfits harms A n c N tb mb w hn hx hN ht hm htop ps hp hps).mono fun e w' ⟨hb, v', he, _⟩ => ⟨hb, v', by rw [he, hs]; rfl⟩

theorem all_some (l : List Rk) (hfits : ∀ r ∈ l, r.Fits) (harms : ArmsOK l) (A : Option Addr) (n c N tb mb : Nat) (w : World) (hn : n ≤ 100000) (hx : Reads w N 5 A n (rkCells l)) (hN : N ≤ w.heap.size)
    (ht : Blk w tb 131 #[.slice A n c, .map (some mb), .int .i64 (topOf l : Int)]) (hm : MapIs Try.prog 9 w mb n (idxM l)) (htop : topOf l < l.length) (ps : List ByteArray) (hp : pts l l.length (topName l) = some ps) (hps : ps.length ≤ 1000000) (ys : List (Int × Int)) (hs : sharesOf l = some ys) :
    Calls Try.prog 47 #[.pointer (some ⟨tb, 0, none⟩)] w fun e w' => Below w.heap.size w w' ∧ ∃ v', e = .returned (.tuple #[v', .bool true]) ∧ w'.ownsRow (w.heap.size + 1) 53 2 v' ys.length (cells2 ys) :=
  (all_any l hfits harms A n c N tb mb w hn hx hN ht hm htop ps hp hps).mono fun e w' ⟨hb, v', he, ho⟩ => ⟨hb, v', by rw [he, hs]; rfl, ho ys hs⟩

set_option maxHeartbeats 1000000 in
theorem Shares_any (l : List Rk) (hfits : ∀ r ∈ l, r.Fits) (A : Option Addr) (n c N : Nat) (w : World) (hn : n ≤ 100000) (hx : Reads w N 5 A n (rkCells l)) (hN : N ≤ w.heap.size)
    (hp : openErr l = 0 → ∃ ps, ptsOf l = some ps ∧ ps.length ≤ 1000000) :
    Calls Try.prog 24 #[.slice A n c] w (SharesPost l w.heap.size w) := by
  have HP := Lib.hid hp
  have HX := Lib.hid hx
  clear hp hx
  by_cases h0 : openErr l = 0
  · obtain ⟨ps, hps, hpl⟩ := HP.out h0
    obtain ⟨z0, -⟩ := open_zero h0
    have harms := arms_of h0
    have htop := topOf_lt z0
    have H0 := Lib.hid h0
    have HPS := Lib.hid hps
    have htop' := Lib.hid htop
    clear h0 hps z0 htop
    cases hs : sharesOf l with
    | none =>
      have HS := Lib.hid hs
      clear hs
      go_enter Try.func24, Try.ntmps24
      go_wp2_with (first | (go_at_call 66; refine (open_ok l hfits A n c N _ HX.out hN (by omega) H0.out).mono ?_; rintro e w1 ⟨rfl, hb, ht, hm⟩))
      have HB := Lib.hid hb
      have HT := Lib.hid ht
      have HM := Lib.hid hm
      have hsz := hb.size
      clear hb ht hm
      go_wp2_with (first | (go_at_call 47; refine (all_none l hfits harms A n c N _ _ w1 hn (HX.out.belowLe HB.out hN) (by omega) HT.out HM.out htop'.out ps HPS.out hpl HS.out).mono ?_; rintro e w2 ⟨hb2, v', rfl⟩))
      go_ret2
      exact ⟨HB.out.trans (hb2.mono (by omega)), fun h => absurd H0.out h, fun _ _ => rfl, fun _ ys h => by rw [HS.out] at h; cases h⟩
    | some ys =>
      have HS := Lib.hid hs
      clear hs
      go_enter Try.func24, Try.ntmps24
      go_wp2_with (first | (go_at_call 66; refine (open_ok l hfits A n c N _ HX.out hN (by omega) H0.out).mono ?_; rintro e w1 ⟨rfl, hb, ht, hm⟩))
      have HB := Lib.hid hb
      have HT := Lib.hid ht
      have HM := Lib.hid hm
      have hsz := hb.size
      clear hb ht hm
      go_wp2_with (first | (go_at_call 47; refine (all_some l hfits harms A n c N _ _ w1 hn (HX.out.belowLe HB.out hN) (by omega) HT.out HM.out htop'.out ps HPS.out hpl ys HS.out).mono ?_; rintro e w2 ⟨hb2, v', rfl, hown⟩))
      go_ret2
      refine ⟨HB.out.trans (hb2.mono (by omega)), fun h => absurd H0.out h, ?_, ?_⟩
      · intro _ h
        rw [HS.out] at h
        cases h
      intro _ zs h
      refine ⟨v', rfl, ?_⟩
      obtain rfl : ys = zs := Option.some.inj (HS.out.symm.trans h)
      exact own_base (by omega) hown
  · have H0 := Lib.hid h0
    have hne : (openErr l != 0) = true := by simpa using h0
    clear h0
    go_enter Try.func24, Try.ntmps24
    go_wp2_with (first | (go_at_call 66; refine (open_bad l hfits A n c N _ HX.out hN (by omega) H0.out).mono ?_; rintro e w1 ⟨rfl, hb⟩))
    go_ret2
    exact ⟨hb, fun _ => rfl, fun h => absurd h H0.out, fun h => absurd h H0.out⟩

end Go.Proofs.Ytoiconebcmneiab

end

section
/- A tree without a cycle has no deep branch: what lies below its top is found. -/
namespace Go.Proofs.Ytoiconebcmneiab
open Go.RowKit

theorem nodup_le {α : Type} [DecidableEq α] : ∀ {p q : List α}, p.Nodup → (∀ x ∈ p, x ∈ q) → p.length ≤ q.length
  | [], _, _, _ => by simp
  | a :: t, q, hn, hs => by
    have ha := hs a (by simp)
    have hn' := List.nodup_cons.1 hn
    have h1 : t.length ≤ (q.erase a).length := nodup_le hn'.2 fun x hx => by
      have hne : x ≠ a := fun e => hn'.1 (e ▸ hx)
      exact (List.mem_erase_of_ne hne).2 (hs x (by simp [hx]))
    rw [List.length_erase_of_mem ha] at h1
    have : 0 < q.length := List.length_pos_of_mem ha
    simp only [List.length_cons]
    omega

/-- The rocker that bears a thing, by its name. -/
def upOf (l : List Rk) (s : ByteArray) : Option ByteArray := (bearerOf l s).bind fun i => (l[i]?).map (·.name)

theorem bearer_get {l : List Rk} {s : ByteArray} {i : Nat} (h : bearerOf l s = some i) : ∃ r, l[i]? = some r ∧ (r.left = s ∨ r.right = s) := by
  unfold bearerOf at h
  obtain ⟨hi, hp, -⟩ := List.findIdx?_eq_some_iff_getElem.1 h
  exact ⟨l[i], List.getElem?_eq_getElem hi, by simpa using hp⟩

theorem climbs_up {l : List Rk} {s t : ByteArray} (h : upOf l s = some t) (f : Nat) : climbs l (f + 1) s = climbs l f t ∧ climbs l 0 s = true := by
  unfold upOf at h
  cases hb : bearerOf l s with
  | none => rw [hb] at h; cases h
  | some i =>
    rw [hb] at h
    simp only [Option.bind_some] at h
    simp only [climbs, hb, h]
    exact ⟨rfl, rfl⟩

/-- From a circle one climbs as long as one likes. -/
theorem climbs_circle {l : List Rk} (S : ByteArray → Prop) (h : ∀ s, S s → ∃ t, upOf l s = some t ∧ S t) : ∀ (f : Nat) (s : ByteArray), S s → climbs l f s = true
  | 0, s, hs => by obtain ⟨t, ht, -⟩ := h s hs; exact (climbs_up ht 0).2
  | f + 1, s, hs => by
    obtain ⟨t, ht, hS⟩ := h s hs
    rw [(climbs_up ht f).1]
    exact climbs_circle S h f t hS

theorem bear_one {s : ByteArray} : ∀ {l : List Rk} {i j : Nat} {r r' : Rk}, (borneAll l).Nodup → l[i]? = some r → l[j]? = some r' → (r.left = s ∨ r.right = s) → (r'.left = s ∨ r'.right = s) → i = j
  | x :: l, i, j, r, r', hn, hi, hj, h1, h2 => by
    have e : borneAll (x :: l) = [x.left, x.right] ++ borneAll l := rfl
    rw [e, List.nodup_append] at hn
    have mem : ∀ {k : Nat} {q : Rk}, l[k]? = some q → (q.left = s ∨ q.right = s) → s ∈ borneAll l := fun hk hq => by
      unfold borneAll
      rw [List.mem_flatMap]
      refine ⟨_, List.mem_of_getElem? hk, ?_⟩
      rcases hq with rfl | rfl <;> simp
    cases i with
    | zero =>
      cases j with
      | zero => rfl
      | succ j =>
        simp at hi
        subst hi
        exact absurd rfl (hn.2.2 s (by rcases h1 with rfl | rfl <;> simp) s (mem (by simpa using hj) h2))
    | succ i =>
      cases j with
      | zero =>
        simp at hj
        subst hj
        exact absurd rfl (hn.2.2 s (by rcases h2 with rfl | rfl <;> simp) s (mem (by simpa using hi) h1))
      | succ j =>
        have hi' : l[i]? = some r := by simpa using hi
        have hj' : l[j]? = some r' := by simpa using hj
        have := bear_one hn.2.1 hi' hj' h1 h2
        omega
  | [], i, j, r, r', _, hi, _, _, _ => by simp at hi

theorem up_of_child {l : List Rk} (hn : (borneAll l).Nodup) {i : Nat} {r : Rk} {s : ByteArray} (hi : l[i]? = some r) (hs : r.left = s ∨ r.right = s) : upOf l s = some r.name := by
  cases hb : bearerOf l s with
  | none =>
    unfold bearerOf at hb
    have := List.findIdx?_eq_none_iff.1 hb r (List.mem_of_getElem? hi)
    simp at this
    rcases hs with h | h
    · exact absurd h this.1
    · exact absurd h this.2
  | some j =>
    obtain ⟨r', hj, hs'⟩ := bearer_get hb
    have e := bear_one hn hi hj hs hs'
    subst e
    unfold upOf
    rw [hb]
    simp [hi]

theorem idx_get {l : List Rk} {s : ByteArray} {i : Nat} (h : idxOf l s = some i) : ∃ r, l[i]? = some r ∧ r.name = s := by
  unfold idxOf at h
  obtain ⟨hi, hp, -⟩ := List.findIdx?_eq_some_iff_getElem.1 h
  exact ⟨l[i], List.getElem?_eq_getElem hi, by simpa using hp⟩

/-- A way down that is too long, from its end up. -/
structure WayUp (l : List Rk) (p : List ByteArray) (s : ByteArray) : Prop where
  last : p.getLast? = some s
  up : ∀ k a b, p[k]? = some a → p[k + 1]? = some b → upOf l a = some b
  rk : ∀ x ∈ p, ∃ r ∈ l, r.name = x

theorem WayUp.snoc {l : List Rk} {p : List ByteArray} {s t : ByteArray} (h : WayUp l p s) (hu : upOf l s = some t) (ht : ∃ r ∈ l, r.name = t) : WayUp l (p ++ [t]) t := by
  refine ⟨by simp, fun k a b ha hb => ?_, fun x hx => ?_⟩
  · rcases Nat.lt_trichotomy (k + 1) p.length with hk | hk | hk
    · rw [List.getElem?_append_left (by omega)] at ha
      rw [List.getElem?_append_left hk] at hb
      exact h.up k a b ha hb
    · rw [List.getElem?_append_left (by omega)] at ha
      rw [List.getElem?_append_right (by omega)] at hb
      have e1 : b = t := by rw [hk, Nat.sub_self] at hb; simpa using hb.symm
      have e2 : a = s := by
        have := h.last
        rw [List.getLast?_eq_getElem?, show p.length - 1 = k by omega, ha] at this
        exact Option.some.inj this
      rw [e1, e2]
      exact hu
    · rw [List.getElem?_eq_none (by simp; omega)] at hb
      cases hb
  · rcases List.mem_append.1 hx with hx | hx
    · exact h.rk x hx
    · simp at hx; exact hx ▸ ht

theorem pts_none {l : List Rk} (hn : (borneAll l).Nodup) : ∀ (f : Nat) (s : ByteArray), pts l f s = none → ∃ p, p.length = f + 1 ∧ WayUp l p s
  | 0, s, h => by
    unfold pts at h
    cases hi : idxOf l s with
    | none => rw [hi] at h; cases h
    | some i =>
      obtain ⟨r, hr, hs⟩ := idx_get hi
      refine ⟨[s], rfl, by simp, fun k a b ha hb => ?_, fun x hx => ?_⟩
      · simp at hb
      · simp at hx; exact ⟨r, List.mem_of_getElem? hr, hs.trans hx.symm⟩
  | f + 1, s, h => by
    unfold pts at h
    cases hi : idxOf l s with
    | none => rw [hi] at h; cases h
    | some i =>
      obtain ⟨r, hr, hs⟩ := idx_get hi
      rw [hi] at h
      simp only [hr] at h
      have hmem : ∃ r ∈ l, r.name = s := ⟨r, List.mem_of_getElem? hr, hs⟩
      cases h1 : pts l f r.left with
      | none =>
        obtain ⟨p, hp, hw⟩ := pts_none hn f r.left h1
        exact ⟨p ++ [s], by simp [hp], hw.snoc (hs ▸ up_of_child hn hr (.inl rfl)) hmem⟩
      | some a =>
        cases h2 : pts l f r.right with
        | none =>
          obtain ⟨p, hp, hw⟩ := pts_none hn f r.right h2
          exact ⟨p ++ [s], by simp [hp], hw.snoc (hs ▸ up_of_child hn hr (.inr rfl)) hmem⟩
        | some b => rw [h1, h2] at h; cases h

theorem pts_ok {l : List Rk} (h : openErr l = 0) (s : ByteArray) : pts l l.length s ≠ none := by
  intro hp
  obtain ⟨h0, h1, h2, hn, h4, h5⟩ := open_zero h
  obtain ⟨p, hlen, hw⟩ := pts_none hn _ _ hp
  have hdup : ¬ p.Nodup := fun hd => by
    have := nodup_le (q := l.map (·.name)) hd fun x hx => by
      obtain ⟨r, hr, e⟩ := hw.rk x hx
      exact List.mem_map.2 ⟨r, hr, e⟩
    rw [hlen, List.length_map] at this
    omega
  have hex : ∃ i j : Nat, ∃ x, i < j ∧ p[i]? = some x ∧ p[j]? = some x := by
    refine Classical.byContradiction fun hno => hdup ?_
    refine List.pairwise_iff_getElem.2 fun i j hi hj hij e => hno ⟨i, j, p[i], hij, List.getElem?_eq_getElem hi, ?_⟩
    rw [List.getElem?_eq_getElem hj, e]
  obtain ⟨i, j, x, hij, hi, hj⟩ := hex
  have hc := climbs_circle (l := l) (fun s => ∃ k, i ≤ k ∧ k < j ∧ p[k]? = some s) (fun s ⟨k, k1, k2, k3⟩ => by
    have hjl : j < p.length := (List.getElem?_eq_some_iff.1 hj).1
    have hk1 : p[k + 1]? = some (p[k + 1]'(by omega)) := List.getElem?_eq_getElem (by omega)
    refine ⟨_, hw.up k _ _ k3 hk1, ?_⟩
    by_cases e : k + 1 = j
    · refine ⟨i, Nat.le_refl _, hij, ?_⟩
      rw [hi, ← hj, ← hk1, e]
    · exact ⟨k + 1, by omega, by omega, hk1⟩) (l.length + 1) x ⟨i, Nat.le_refl _, hij, hi⟩
  obtain ⟨r, hr, e⟩ := hw.rk x (List.mem_of_getElem? hi)
  have := List.any_eq_false.1 h4 r hr
  rw [e] at this
  exact this hc

end Go.Proofs.Ytoiconebcmneiab

end
