import Derived.Test.YtfigbdhfmlhjdaaQ3
import Derived.Test.YtfigbdhfmlhjdaaQ4
import Derived.Maps.OwnOps

section
/- The contract of the shares of the points below a thing. -/
namespace Go.Proofs.Ytfigbdhfmlhjdaa
open Go.RowKit

/-- The points below a thing; none: not within so many steps. -/
def pts (l : List Rk) : Nat → ByteArray → Option (List ByteArray)
  | 0, s => match idxOf l s with
    | none => some [s]
    | some _ => none
  | f + 1, s => match idxOf l s with
    | none => some [s]
    | some i => match l[i]? with
      | none => none
      | some r => match pts l f r.left, pts l f r.right with
        | some a, some b => some (a ++ b)
        | _, _ => none

def redN (a b : Int) : Int := a / (Int.gcd a b : Int)
def redD (a b : Int) : Int := b / (Int.gcd a b : Int)

def join2 (a b : Option (List (Int × Int))) : Option (List (Int × Int)) := match a, b with
  | some x, some y => some (x ++ y)
  | _, _ => none

/-- The shares of the points below a thing; none: one is not small. -/
def sh (l : List Rk) : Nat → ByteArray → Int → Int → Option (List (Int × Int))
  | 0, _, n, d => some [(n, d)]
  | f + 1, s, n, d => match idxOf l s with
    | none => some [(n, d)]
    | some i => match l[i]? with
      | none => none
      | some r => if smallB (n * r.ar) (d * (r.al + r.ar)) && smallB (n * r.al) (d * (r.al + r.ar)) then
          join2 (sh l f r.left (redN (n * r.ar) (d * (r.al + r.ar))) (redD (n * r.ar) (d * (r.al + r.ar)))) (sh l f r.right (redN (n * r.al) (d * (r.al + r.ar))) (redD (n * r.al) (d * (r.al + r.ar))))
        else none

theorem sh_length (l : List Rk) : ∀ (f : Nat) (s : ByteArray) (n d : Int) (ps : List ByteArray) (ys : List (Int × Int)), pts l f s = some ps → sh l f s n d = some ys → ys.length = ps.length := by
  intro f
  induction f with
  | zero =>
    intro s n d ps ys hp hs
    unfold pts at hp
    unfold sh at hs
    obtain rfl := Option.some.inj hs
    cases hx : idxOf l s with
    | none => rw [hx] at hp; obtain rfl := Option.some.inj hp; rfl
    | some i => rw [hx] at hp; cases hp
  | succ f ih =>
    intro s n d ps ys hp hs
    unfold pts at hp
    unfold sh at hs
    cases hx : idxOf l s with
    | none => rw [hx] at hp hs; obtain rfl := Option.some.inj hp; obtain rfl := Option.some.inj hs; rfl
    | some i =>
      rw [hx] at hp hs
      simp only at hp hs
      cases hr : l[i]? with
      | none => rw [hr] at hp; cases hp
      | some r =>
        rw [hr] at hp hs
        simp only at hp hs
        cases ha : pts l f r.left with
        | none => rw [ha] at hp; cases hp
        | some pa =>
          cases hb : pts l f r.right with
          | none => rw [ha, hb] at hp; cases hp
          | some pb =>
            rw [ha, hb] at hp
            obtain rfl := Option.some.inj hp
            split at hs
            · unfold join2 at hs
              split at hs
              · rename_i x y h1 h2
                obtain rfl := Option.some.inj hs
                rw [List.length_append, List.length_append, ih _ _ _ _ _ ha h1, ih _ _ _ _ _ hb h2]
              · cases hs
            · cases hs

theorem info_frac : (Try.prog.info? 35).map (fun i => (i.zero, i.size, i.bytes)) = some (some (.agg #[.int .i64 0, .int .i64 0]), 2, 16) := by kernel_rfl

/-- What a walk below a thing needs: the tree, its list, the cell to which is appended. -/
structure ShPre (l : List Rk) (A : Option Addr) (n c N tb mb ob : Nat) (top : Int) (v : Value) (out : List (Int × Int)) (w : World) : Prop where
  reads : Reads w N 5 A n (rkCells l)
  hN : N ≤ ob
  htb : tb < ob
  hmb : mb < ob
  tree : Blk w tb 100 #[.slice A n c, .map (some mb), .int .i64 top]
  map : MapIs Try.prog 9 w mb n (idxM l)
  cell : Blk w ob 40 #[v]
  own : w.ownsRow (ob + 1) 35 2 v out.length (cells2 out)

theorem ShPre.below {l : List Rk} {A : Option Addr} {n c N tb mb ob : Nat} {top : Int} {v : Value} {out : List (Int × Int)} {w w' : World} (h : ShPre l A n c N tb mb ob top v out w) (hb : Below w.heap.size w w') : ShPre l A n c N tb mb ob top v out w' :=
  ⟨h.reads.belowLe hb (by have := h.cell.lt; have := h.hN; omega), h.hN, h.htb, h.hmb, h.tree.below hb h.tree.lt, h.map.below hb h.map.lt, h.cell.below hb h.cell.lt, own_below h.own hb (Nat.le_refl _)⟩

def ShPost (l : List Rk) (A : Option Addr) (n c N tb mb ob : Nat) (top : Int) (v : Value) (out : List (Int × Int)) (w : World) (res : Option (List (Int × Int))) (e : Ending) (w' : World) : Prop :=
  ∃ v', Fr ob v v' w w' ∧ e = .returned (.bool res.isSome) ∧ Blk w' ob 40 #[v'] ∧ (∀ ys, res = some ys → ShPre l A n c N tb mb ob top v' (out ++ ys) w')

set_option maxHeartbeats 1000000 in
theorem shares_leaf (l : List Rk) (A : Option Addr) (n c N tb mb ob : Nat) (top : Int) (v : Value) (out : List (Int × Int)) (w : World) (h : ShPre l A n c N tb mb ob top v out w)
    (name : ByteArray) (hnm : name.size ≤ maxLen) (nn dd : Int) (hi : idxOf l name = none) (hout : out.length ≤ 1000000) :
    Calls Try.prog 64 #[.pointer (some ⟨tb, 0, none⟩), .string name, .agg #[.int .i64 nn, .int .i64 dd], .pointer (some ⟨ob, 0, none⟩)] w (ShPost l A n c N tb mb ob top v out w (some [(nn, dd)])) := by
  have hu : idxM l name = none := by unfold idxM; rw [hi]; rfl
  obtain ⟨i0, hi0, hz0, hz1, hz2⟩ := info_parts info_frac
  have hlt := h.cell.lt
  have t1 : (w.alloc (.cells #[.int .i64 nn, .int .i64 dd] 35)).cell? ⟨tb, 1, none⟩ = some (.map (some mb)) := (h.tree.alloc _).cell 1
  have hmap := h.map.alloc (.cells #[.int .i64 nn, .int .i64 dd] 35)
  have H := Lib.hid h
  clear h
  go_enter Try.func64, Try.ntmps64
  go_wp2_with (first | (at_lookup; refine wpList_look _ rfl _ _ _ rfl Try.underlying9 Try.underlying98 (zero_int _) hmap rfl _ rfl hnm ?_))
  have hbox : Blk (w.alloc (.cells #[.int .i64 nn, .int .i64 dd] 35)) w.heap.size 35 #[.int .i64 nn, .int .i64 dd] := Blk.new _ _ _
  have hcell := H.out.cell.alloc (.cells #[.int .i64 nn, .int .i64 dd] 35)
  have hown := H.out.own.alloc (.cells #[.int .i64 nn, .int .i64 dd] 35)
  obtain ⟨W0, hW0⟩ : ∃ W0, W0 = (w.alloc (.cells #[.int .i64 nn, .int .i64 dd] 35)).drewN 1 := ⟨_, rfl⟩
  have b0 : Blk W0 w.heap.size 35 #[.int .i64 nn, .int .i64 dd] := by rw [hW0]; exact hbox.drewN 1
  have d0 : Blk W0 ob 40 #[v] := by rw [hW0]; exact hcell.drewN 1
  have o0 : W0.ownsRow (ob + 1) 35 2 v out.length (cells2 out) := by rw [hW0]; exact own_drewN hown 1
  obtain ⟨W1, hW1⟩ : ∃ W1, W1 = W0.alloc (.cells #[.int .i64 nn, .int .i64 dd] 35) := ⟨_, rfl⟩
  have d1 : Blk W1 ob 40 #[v] := by rw [hW1]; exact d0.alloc _
  have o1 : W1.ownsRow (ob + 1) 35 2 v out.length (cells2 out) := by rw [hW1]; exact o0.alloc _
  have s1 : W1.heap.size = W0.heap.size + 1 := by rw [hW1]; simp
  have n1 : Blk W1 W0.heap.size 35 #[.int .i64 nn, .int .i64 dd] := by rw [hW1]; exact Blk.new _ _ _
  have r1 : Reads W1 W1.heap.size 2 (some ⟨W0.heap.size, 0, none⟩) 1 [.int .i64 nn, .int .i64 dd] := ⟨rfl, fun _ => ⟨_, 0, rfl, n1.lt, fun j u hu => by
    rw [Nat.zero_add, n1.cell j]; simpa using hu⟩⟩
  obtain ⟨v', W2, hrun, o2, hg2, hrow⟩ := run_append_any (P := Try.prog) W1 (ob + 1) 40 40 35 i0 _ 2 16 Try.underlying40 hi0 hz0 hz1 hz2 rfl (by omega) v out.length (cells2 out) o1 _ _ 1 1 _ r1 (by simp [Value.oneCell']) (by unfold maxLen; omega) (by omega) (by have := d0.lt; omega)
  obtain ⟨g2, cap2, rfl, _, _⟩ := o2.form (by omega)
  have HRUN := Lib.hid hrun
  have hvo : v.ownBlock ≠ some ob := fun e => by have := (own_lt o1 e).1; omega
  have d2 : Blk W2 ob 40 #[v] := d1.grown hg2 (fun e => hvo e.symm)
  have hv2o : (Value.slice (some ⟨g2, 0, none⟩) (out.length + 1) cap2).ownBlock ≠ some ob := by
    rcases hrow with e | e <;> rw [e]
    · exact hvo
    · intro e; have := d1.lt; simp at e; omega
  clear hrun hmap t1 hbox hcell hown hz0 hz1 hz2 hi0
  refine Fx.region (fun f w' => (w' = if f 8 then W2.setCell ⟨ob, 0, none⟩ (.slice (some ⟨g2, 0, none⟩) (out.length + 1) cap2) else if f 6 then W2 else if f 5 then W1 else W0) ∧ True) (by kernel_rfl) (by kernel_rfl) ?_ ?_
  · intro f hf0
    rw [hf0 8, hf0 6, hf0 5]; exact ⟨hW0.symm, trivial⟩
  repeat (first
    | (refine Fx.skip_ (by rfl) (fun f w h => h) ?_; simp only [Act.put, List.setIfInBounds_toArray, List.set_cons_zero, List.set_cons_succ])
    | (refine Fx.val_ ?_ (by rfl) ?_ (fun f w h => h) ?_
       rotate_left
       · intro f w' hD hk
         obtain ⟨jw, _⟩ := id hD
         clear hk hD jw
         go_simp
         try rfl
       simp only [Act.put, List.setIfInBounds_toArray, List.set_cons_zero, List.set_cons_succ]))
  refine Fx.val_ ?_ (by rfl) ?_ (fun f w h => h) ?_
  rotate_left
  · intro f w' hD hk
    obtain ⟨jw, _⟩ := id hD
    have h6 : f 6 = false := hk.2.1 6 (by kernel_rfl)
    have h8 : f 8 = false := hk.2.1 8 (by kernel_rfl)
    rw [h6, h8] at jw
    simp only [Bool.false_eq_true, if_false] at jw
    have cc : w'.cell? ⟨ob, 0, none⟩ = some v := by rw [jw]; split; exact d1.cell 0; exact d0.cell 0
    clear hk hD jw h6 h8
    go_simp
    try rfl
  simp only [Act.put, List.setIfInBounds_toArray, List.set_cons_zero, List.set_cons_succ]
  refine Fx.val_ ?_ (by rfl) ?_ (fun f w h => h) ?_
  rotate_left
  · intro f w' hD hk
    obtain ⟨jw, _⟩ := id hD
    have h5 : f 5 = false := hk.2.1 5 (by kernel_rfl)
    have h6 : f 6 = false := hk.un 6 5 (by kernel_rfl) h5
    have h8 : f 8 = false := hk.un 8 5 (by kernel_rfl) h5
    rw [h5, h6, h8] at jw
    simp only [Bool.false_eq_true, if_false] at jw
    have c0 : w'.cell? ⟨w.heap.size, 0, none⟩ = some (.int .i64 nn) := by rw [jw]; exact b0.cell 0
    have c1 : w'.cell? ⟨w.heap.size, 1, none⟩ = some (.int .i64 dd) := by rw [jw]; exact b0.cell 1
    clear hk hD jw h5 h6 h8
    go_simp
    try rfl
  simp only [Act.put, List.setIfInBounds_toArray, List.set_cons_zero, List.set_cons_succ]
  refine Fx.eff_ (.slice (some ⟨W0.heap.size, 0, none⟩) 1 1) (fun w' => W1) (by rfl) ?_ ?_ ?_
  · intro f w' hD hk
    obtain ⟨jw, _⟩ := id hD
    have h5 : f 5 = false := hk.1
    have h6 : f 6 = false := hk.un 6 5 (by kernel_rfl) h5
    have h8 : f 8 = false := hk.un 8 5 (by kernel_rfl) h5
    rw [h5, h6, h8] at jw
    simp only [Bool.false_eq_true, if_false] at jw
    subst jw
    clear hk hD
    rw [hW1]
    go_simp
  · intro f w' hD hk
    obtain ⟨jw, _⟩ := id hD
    have h5 : f 5 = false := hk.1
    have h6 : f 6 = false := hk.un 6 5 (by kernel_rfl) h5
    have h8 : f 8 = false := hk.un 8 5 (by kernel_rfl) h5
    rw [h5, h6, h8] at jw
    simp only [Bool.false_eq_true, if_false] at jw
    subst jw
    exact ⟨by simp [Fx.add, h6, h8], trivial⟩
  simp only [Act.put, List.setIfInBounds_toArray, List.set_cons_zero, List.set_cons_succ]
  refine Fx.eff_ (.slice (some ⟨g2, 0, none⟩) (out.length + 1) cap2) (fun w' => W2) (by rfl) ?_ ?_ ?_
  · intro f w' hD hk
    obtain ⟨jw, _⟩ := id hD
    have h5 : f 5 = true := hk.2.2.1 5 (by kernel_rfl)
    have h6 : f 6 = false := hk.1
    have h8 : f 8 = false := hk.un 8 6 (by kernel_rfl) h6
    rw [h5, h6, h8] at jw
    simp only [Bool.false_eq_true, if_false, if_true] at jw
    subst jw
    exact exec_append (.tmp 31) (.tmp 33) _ rfl HRUN.out
  · intro f w' hD hk
    obtain ⟨jw, _⟩ := id hD
    have h5 : f 5 = true := hk.2.2.1 5 (by kernel_rfl)
    have h6 : f 6 = false := hk.1
    have h8 : f 8 = false := hk.un 8 6 (by kernel_rfl) h6
    rw [h5, h6, h8] at jw
    simp only [Bool.false_eq_true, if_false, if_true] at jw
    subst jw
    exact ⟨by simp [Fx.add, h8], trivial⟩
  simp only [Act.put, List.setIfInBounds_toArray, List.set_cons_zero, List.set_cons_succ]
  repeat (first
    | (refine Fx.skip_ (by rfl) (fun f w h => h) ?_; simp only [Act.put, List.setIfInBounds_toArray, List.set_cons_zero, List.set_cons_succ])
    | (refine Fx.val_ ?_ (by rfl) ?_ (fun f w h => h) ?_
       rotate_left
       · intro f w' hD hk
         obtain ⟨jw, _⟩ := id hD
         clear hk hD jw
         go_simp
         try rfl
       simp only [Act.put, List.setIfInBounds_toArray, List.set_cons_zero, List.set_cons_succ]))
  refine Fx.store_ (fun w' => W2.setCell ⟨ob, 0, none⟩ (.slice (some ⟨g2, 0, none⟩) (out.length + 1) cap2)) (by rfl) ?_ ?_ ?_
  · intro f w' hD hk
    obtain ⟨jw, _⟩ := id hD
    have h6 : f 6 = true := hk.2.2.1 6 (by kernel_rfl)
    have h8 : f 8 = false := hk.1
    rw [h6, h8] at jw
    simp only [Bool.false_eq_true, if_false, if_true] at jw
    subst jw
    have cc : w'.cell? ⟨ob, 0, none⟩ = some v := d2.cell 0
    have zz := d2.frozen 0
    clear hk hD
    go_simp
  · intro f w' hD hk
    obtain ⟨jw, _⟩ := id hD
    have h6 : f 6 = true := hk.2.2.1 6 (by kernel_rfl)
    have h8 : f 8 = false := hk.1
    rw [h6, h8] at jw
    simp only [Bool.false_eq_true, if_false, if_true] at jw
    subst jw
    exact ⟨by simp [Fx.add], trivial⟩
  simp only [Act.put, List.setIfInBounds_toArray, List.set_cons_zero, List.set_cons_succ]
  refine Fx.nil_ ?_
  intro f w1 hall hD
  have hf8 := hall 8 (by simp)
  obtain ⟨jw, _⟩ := hD
  simp only [hf8, if_true] at *
  subst jw
  try clear hall
  go_wp2
  go_ret
  have hbelow : Below w.heap.size w W0 := by rw [hW0]; exact below_drewN ((Below.refl _ _).alloc (Nat.le_refl _) _) 1
  have hb1 : Below w.heap.size w W1 := by rw [hW1]; exact hbelow.alloc hbelow.size _
  have hv : ∀ g, v.ownBlock = some g → ob + 1 ≤ g ∧ g < w.heap.size := fun g hg => own_lt H.out.own hg
  have hs2 := hg2.size
  have hs1 := hb1.size
  have hsz0 := hbelow.size
  have ho2 : (W2.setCell ⟨ob, 0, none⟩ (.slice (some ⟨g2, 0, none⟩) (out.length + 1) cap2)).ownsRow (ob + 1) 35 2 (.slice (some ⟨g2, 0, none⟩) (out.length + 1) cap2) (out ++ [(nn, dd)]).length (cells2 (out ++ [(nn, dd)])) := by
    rw [List.length_append, cells2_append]
    exact own_set o2 hv2o _
  have hfr : Fr ob v (.slice (some ⟨g2, 0, none⟩) (out.length + 1) cap2) w (W2.setCell ⟨ob, 0, none⟩ (.slice (some ⟨g2, 0, none⟩) (out.length + 1) cap2)) := by
    refine ⟨hg2.os.trans hb1.os, hg2.tape.trans hb1.tape, hg2.output.trans hb1.output, by simp [World.setCell]; omega, fun k hk hne hvk => ?_, ?_⟩
    · rw [Below.heap_setCell _ _ _ _ hne, hg2.block k (by omega) (fun e => hvk e.symm), hb1.block k hk]
    · rcases hrow with e | e
      · exact .inl e
      · exact .inr ⟨_, e, by omega⟩
  have hbb : Below ob w (W2.setCell ⟨ob, 0, none⟩ (.slice (some ⟨g2, 0, none⟩) (out.length + 1) cap2)) := hfr.below (Nat.le_refl _) (by omega) (fun g hg => by have := (hv g hg).1; omega)
  refine ⟨_, hfr, rfl, d2.set_ 0 _, fun ys hys => ?_⟩
  obtain rfl := Option.some.inj hys
  exact ⟨H.out.reads.belowLe hbb H.out.hN, H.out.hN, H.out.htb, H.out.hmb, H.out.tree.below hbb H.out.htb, H.out.map.below hbb H.out.hmb, d2.set_ 0 _, ho2⟩

/-- Arms are from 1 to 10000. -/
def ArmsOK (l : List Rk) : Prop := ∀ r ∈ l, 1 ≤ r.al ∧ r.al ≤ 10000 ∧ 1 ≤ r.ar ∧ r.ar ≤ 10000
/-- A part of a fraction. -/
def Part (x : Int) : Prop := 1 ≤ x ∧ x ≤ 1000000000

theorem red_part {a b : Int} (ha : 1 ≤ a) (hb : 1 ≤ b) (h : smallB a b = true) : Part (redN a b) ∧ Part (redD a b) := by
  unfold smallB at h
  rw [Bool.and_eq_true, withinB_iff, decide_eq_true_iff] at h
  have hg : 0 < Int.gcd a b := Int.gcd_pos_of_ne_zero_left b (by omega)
  have d1 : (Int.gcd a b : Int) ∣ a := Int.gcd_dvd_left a b
  have d2 : (Int.gcd a b : Int) ∣ b := Int.gcd_dvd_right a b
  have p1 : 0 < a / (Int.gcd a b : Int) := Int.ediv_pos_of_pos_of_dvd (by omega) (by omega) d1
  have p2 : 0 < b / (Int.gcd a b : Int) := Int.ediv_pos_of_pos_of_dvd (by omega) (by omega) d2
  exact ⟨⟨by unfold redN; omega, h.1.2⟩, ⟨by unfold redD; omega, h.2⟩⟩

theorem small_red (a b : Int) (w : World) (h1 : -9223372036854775808 < a) (h2 : a ≤ 9223372036854775807) (h3 : 1 ≤ b) (h4 : b ≤ 9223372036854775807) :
    Calls Try.prog 53 #[.int .i64 a, .int .i64 b] w fun e w' => e = .returned (.tuple #[.agg #[.int .i64 (redN a b), .int .i64 (redD a b)], .bool (smallB a b)]) ∧ Below w.heap.size w w' := small_any a b w h1 h2 h3 h4

set_option maxRecDepth 100000 in
set_option maxHeartbeats 2000000 in
theorem shares_any (l : List Rk) (hfits : ∀ r ∈ l, r.Fits) (harms : ArmsOK l) (A : Option Addr) (n c N tb mb ob : Nat) (top : Int) (hn : n ≤ 1000000) :
    ∀ (f : Nat) (name : ByteArray) (ps : List ByteArray) (nn dd : Int) (v : Value) (out : List (Int × Int)) (w : World), pts l f name = some ps → name.size ≤ maxLen → Part nn → Part dd →
      ShPre l A n c N tb mb ob top v out w → out.length + ps.length ≤ 1000000 →
      Calls Try.prog 64 #[.pointer (some ⟨tb, 0, none⟩), .string name, .agg #[.int .i64 nn, .int .i64 dd], .pointer (some ⟨ob, 0, none⟩)] w (ShPost l A n c N tb mb ob top v out w (sh l f name nn dd)) := by
  intro f
  induction f with
  | zero =>
    intro name ps nn dd v out w hp hnm hnn hdd h hlen
    have hi : idxOf l name = none := by
      unfold pts at hp
      cases hx : idxOf l name with
      | none => rfl
      | some i => rw [hx] at hp; cases hp
    unfold sh
    exact shares_leaf l A n c N tb mb ob top v out w h name hnm nn dd hi (by omega)
  | succ f ih =>
    intro name ps nn dd v out w hp hnm hnn hdd h hlen
    cases hi : idxOf l name with
    | none =>
      unfold sh
      rw [hi]
      exact shares_leaf l A n c N tb mb ob top v out w h name hnm nn dd hi (by omega)
    | some i =>
      unfold pts at hp
      rw [hi] at hp
      simp only at hp
      cases hr : l[i]? with
      | none => rw [hr] at hp; cases hp
      | some r =>
        rw [hr] at hp
        simp only at hp
        cases ha : pts l f r.left with
        | none => rw [ha] at hp; cases hp
        | some pa =>
          cases hb : pts l f r.right with
          | none => rw [ha, hb] at hp; cases hp
          | some pb =>
            rw [ha, hb] at hp
            obtain rfl := Option.some.inj hp
            rw [List.length_append] at hlen
            have hmem := List.mem_of_getElem? hr
            have hfit := hfits r hmem
            obtain ⟨al1, al2, ar1, ar2⟩ := harms r hmem
            have hin : i < n := by
              have := (List.getElem?_eq_some_iff.1 hr).1
              rw [h.reads.len5] at this; exact this
            obtain ⟨xb, xo, r', rfl, hxb, hr', c0, c1, c2, c3, c4⟩ := h.reads.rk hin
            obtain rfl := Option.some.inj (hr'.symm.trans hr)
            have hsh : sh l (f + 1) name nn dd = if smallB (nn * r'.ar) (dd * (r'.al + r'.ar)) && smallB (nn * r'.al) (dd * (r'.al + r'.ar)) then
                join2 (sh l f r'.left (redN (nn * r'.ar) (dd * (r'.al + r'.ar))) (redD (nn * r'.ar) (dd * (r'.al + r'.ar)))) (sh l f r'.right (redN (nn * r'.al) (dd * (r'.al + r'.ar))) (redD (nn * r'.al) (dd * (r'.al + r'.ar))))
              else none := by rw [sh, hi]; simp only [hr]
            have hu0 : idxM l name = some (.int .i64 (i : Int)) := by unfold idxM; rw [hi]; rfl
            have HA := Lib.hid ha
            have HBp := Lib.hid hb
            have HSH := Lib.hid hsh
            clear hsh hr' hr hi ha hb hmem
            obtain ⟨nn1, nn2⟩ := hnn
            obtain ⟨dd1, dd2⟩ := hdd
            have m1 : 1 ≤ nn * r'.ar ∧ nn * r'.ar ≤ 1000000000 * 10000 := ⟨by have := Int.mul_le_mul nn1 ar1 (by omega) (by omega); omega, Int.mul_le_mul nn2 ar2 (by omega) (by omega)⟩
            have m2 : 1 ≤ nn * r'.al ∧ nn * r'.al ≤ 1000000000 * 10000 := ⟨by have := Int.mul_le_mul nn1 al1 (by omega) (by omega); omega, Int.mul_le_mul nn2 al2 (by omega) (by omega)⟩
            have m3 : 1 ≤ dd * (r'.al + r'.ar) ∧ dd * (r'.al + r'.ar) ≤ 1000000000 * 20000 := ⟨by have := Int.mul_le_mul dd1 (show 1 ≤ r'.al + r'.ar by omega) (by omega) (by omega); omega, Int.mul_le_mul dd2 (by omega) (by omega) (by omega)⟩
            have hu : idxM l name = some (.int .i64 (i : Int)) := hu0
            have t1 : (w.alloc (.cells #[.int .i64 nn, .int .i64 dd] 35)).cell? ⟨tb, 1, none⟩ = some (.map (some mb)) := (h.tree.alloc _).cell 1
            have t0 : (w.alloc (.cells #[.int .i64 nn, .int .i64 dd] 35)).cell? ⟨tb, 0, none⟩ = some (.slice (some ⟨xb, xo, none⟩) n c) := (h.tree.alloc _).cell 0
            have hmap := h.map.alloc (.cells #[.int .i64 nn, .int .i64 dd] 35)
            have hw := h.cell.lt
            have hN := h.hN
            have H := Lib.hid h
            have IH := Lib.hid ih
            clear h ih
            have x0 := (World.cell?_alloc_lt w (.cells #[.int .i64 nn, .int .i64 dd] 35) ⟨xb, xo + i * 5, none⟩ (by simp; omega)).trans c0
            have x1 := (World.cell?_alloc_lt w (.cells #[.int .i64 nn, .int .i64 dd] 35) ⟨xb, xo + i * 5 + 1, none⟩ (by simp; omega)).trans c1
            have x2 := (World.cell?_alloc_lt w (.cells #[.int .i64 nn, .int .i64 dd] 35) ⟨xb, xo + i * 5 + 2, none⟩ (by simp; omega)).trans c2
            have x3 := (World.cell?_alloc_lt w (.cells #[.int .i64 nn, .int .i64 dd] 35) ⟨xb, xo + i * 5 + 3, none⟩ (by simp; omega)).trans c3
            have x4 := (World.cell?_alloc_lt w (.cells #[.int .i64 nn, .int .i64 dd] 35) ⟨xb, xo + i * 5 + 4, none⟩ (by simp; omega)).trans c4
            clear c0 c1 c2 c3 c4
            go_enter Try.func64, Try.ntmps64
            go_wp2_with (first | (at_lookup; refine wpList_look _ rfl _ _ _ rfl Try.underlying9 Try.underlying98 (zero_int _) hmap rfl _ rfl hnm ?_))
            refine (small_red _ _ _ (by omega) (by omega) (by omega) (by omega)).mono ?_
            rintro e w1 ⟨rfl, hb1⟩
            have kb : Blk w1 w.heap.size 35 #[.int .i64 nn, .int .i64 dd] := Blk.below ((Blk.at_ w rfl _ _).alloc _) hb1 (by first | (simp; done) | (simp; omega))
            have kr : Blk w1 (w.heap.size + 1) 65 #[.string r'.name, .string r'.left, .string r'.right, .int .i64 r'.al, .int .i64 r'.ar] := Blk.below (Blk.at_ _ (by simp) _ _) hb1 (by first | (simp; done) | (simp; omega))
            simp only [World.size_alloc] at hb1
            have q1 : Below w.heap.size w w1 := (((Below.refl _ _).alloc (Nat.le_refl _) _).alloc (by simp) _).trans (hb1.mono (by omega))
            have z1 := hb1.size
            simp only [World.size_alloc] at z1
            clear hb1
            have y0 : ∀ o, (w1.alloc o).cell? ⟨w.heap.size, 0, none⟩ = some (.int .i64 nn) := fun o => (kb.alloc o).cell 0
            have y1 : ∀ o, (w1.alloc o).cell? ⟨w.heap.size, 1, none⟩ = some (.int .i64 dd) := fun o => (kb.alloc o).cell 1
            have y2 : ∀ o, (w1.alloc o).cell? ⟨w.heap.size + 1, 3, none⟩ = some (.int .i64 r'.al) := fun o => (kr.alloc o).cell 3
            go_wp2_with fail
            refine (small_red _ _ _ (by omega) (by omega) (by omega) (by omega)).mono ?_
            rintro e w2 ⟨rfl, hb2⟩
            have ll : Blk w2 w1.heap.size 35 #[.int .i64 (redN (nn * r'.ar) (dd * (r'.al + r'.ar))), .int .i64 (redD (nn * r'.ar) (dd * (r'.al + r'.ar)))] := Blk.below (Blk.at_ _ rfl _ _) hb2 (by first | (simp; done) | (simp; omega))
            have kr2 : Blk w2 (w.heap.size + 1) 65 #[.string r'.name, .string r'.left, .string r'.right, .int .i64 r'.al, .int .i64 r'.ar] := Blk.below (kr.alloc _) hb2 (by first | (simp; done) | (simp; omega))
            simp only [World.size_alloc] at hb2
            have q2 : Below w.heap.size w w2 := (q1.alloc q1.size _).trans (hb2.mono (by omega))
            have z2 := hb2.size
            simp only [World.size_alloc] at z2
            clear hb2 kb y0 y1 y2 kr
            have Q2 := Lib.hid q2
            clear q1 q2
            have l0 : ∀ o, (w2.alloc o).cell? ⟨w1.heap.size, 0, none⟩ = some (.int .i64 (redN (nn * r'.ar) (dd * (r'.al + r'.ar)))) := fun o => (ll.alloc o).cell 0
            have l1 : ∀ o, (w2.alloc o).cell? ⟨w1.heap.size, 1, none⟩ = some (.int .i64 (redD (nn * r'.ar) (dd * (r'.al + r'.ar)))) := fun o => (ll.alloc o).cell 1
            have y1 : ∀ o, (w2.alloc o).cell? ⟨w.heap.size + 1, 1, none⟩ = some (.string r'.left) := fun o => (kr2.alloc o).cell 1
            by_cases s1 : smallB (nn * r'.ar) (dd * (r'.al + r'.ar)) = true
            rotate_left
            · have hno : sh l (f + 1) name nn dd = none := by rw [HSH.out, if_neg (by simp [s1])]
              have HNO := Lib.hid hno
              clear hno
              go_wp2_with fail
              go_ret
              exact ⟨v, Fr.of_below (Q2.out.alloc Q2.out.size _), by rw [HNO.out]; rfl, H.out.cell.below (Q2.out.alloc Q2.out.size _) H.out.cell.lt, fun ys hys => by rw [HNO.out] at hys; cases hys⟩
            · by_cases s2 : smallB (nn * r'.al) (dd * (r'.al + r'.ar)) = true
              rotate_left
              · have hno : sh l (f + 1) name nn dd = none := by rw [HSH.out, if_neg (by simp [s2])]
                have HNO := Lib.hid hno
                clear hno
                go_wp2_with fail
                go_ret
                exact ⟨v, Fr.of_below (Q2.out.alloc Q2.out.size _), by rw [HNO.out]; rfl, H.out.cell.below (Q2.out.alloc Q2.out.size _) H.out.cell.lt, fun ys hys => by rw [HNO.out] at hys; cases hys⟩
              · have hyes := HSH.out
                rw [if_pos (by simp [s1, s2])] at hyes
                have P1 := red_part m1.1 m3.1 s1
                have P2 := red_part m2.1 m3.1 s2
                have HYES := Lib.hid hyes
                have HP1 := Lib.hid P1
                have HP2 := Lib.hid P2
                clear P1 P2 hyes
                go_wp2_with fail
                refine (IH.out r'.left pa _ _ v out _ HA.out hfit.left HP1.out.1 HP1.out.2 (H.out.below (Q2.out.alloc Q2.out.size _)) (by omega)).mono ?_
                rintro e w4 ⟨v1, fr1, rfl, cell1, hpre1⟩
                have hrow : ∀ g, v.ownBlock = some g → g < w.heap.size := fun g hg => (own_lt H.out.own hg).2
                have rb : Blk w4 w2.heap.size 35 #[.int .i64 (redN (nn * r'.al) (dd * (r'.al + r'.ar))), .int .i64 (redD (nn * r'.al) (dd * (r'.al + r'.ar)))] := fr1.blk (Blk.at_ _ rfl _ _) (by omega) (fun e => by have := hrow _ e; omega)
                have kr4 : Blk w4 (w.heap.size + 1) 65 #[.string r'.name, .string r'.left, .string r'.right, .int .i64 r'.al, .int .i64 r'.ar] := fr1.blk (kr2.alloc _) (by omega) (fun e => by have := hrow _ e; omega)
                have fr1' : Fr ob v v1 w w4 := (Fr.of_below (Q2.out.alloc Q2.out.size _)).trans fr1
                have FR1 := Lib.hid fr1'
                have HPRE := Lib.hid hpre1
                clear fr1 fr1' hpre1 l0 l1 y1
                have y2 : w4.cell? ⟨w.heap.size + 1, 2, none⟩ = some (.string r'.right) := kr4.cell 2
                have y3 : w4.cell? ⟨w2.heap.size, 0, none⟩ = some (.int .i64 (redN (nn * r'.al) (dd * (r'.al + r'.ar)))) := rb.cell 0
                have y4 : w4.cell? ⟨w2.heap.size, 1, none⟩ = some (.int .i64 (redD (nn * r'.al) (dd * (r'.al + r'.ar)))) := rb.cell 1
                cases hl : sh l f r'.left (redN (nn * r'.ar) (dd * (r'.al + r'.ar))) (redD (nn * r'.ar) (dd * (r'.al + r'.ar))) with
                | none =>
                  have hno : sh l (f + 1) name nn dd = none := by rw [HYES.out, hl]; rfl
                  have HNO := Lib.hid hno
                  clear hno hl
                  simp only [Option.isSome_none]
                  go_wp2_with fail
                  go_ret
                  exact ⟨v1, FR1.out, by rw [HNO.out]; rfl, cell1, fun ys hys => by rw [HNO.out] at hys; cases hys⟩
                | some ys1 =>
                  have hlen1 := sh_length l f _ _ _ _ _ HA.out hl
                  have hyes2 := HYES.out
                  rw [hl] at hyes2
                  have HY2 := Lib.hid hyes2
                  have hpre2 := HPRE.out ys1 hl
                  have HPRE2 := Lib.hid hpre2
                  clear hyes2 hpre2 hl HPRE
                  simp only [Option.isSome_some]
                  go_wp2_with fail
                  refine (IH.out r'.right pb _ _ v1 (out ++ ys1) _ HBp.out hfit.right HP2.out.1 HP2.out.2 HPRE2.out (by rw [List.length_append]; omega)).mono ?_
                  rintro e w5 ⟨v2, fr2, rfl, cell2, hpre5⟩
                  have FR2 := Lib.hid (FR1.out.trans fr2)
                  have HPRE5 := Lib.hid hpre5
                  clear fr2 hpre5
                  go_wp2_with fail
                  go_ret
                  refine ⟨v2, FR2.out, ?_, cell2, fun ys hys => ?_⟩
                  · rw [HY2.out]
                    cases sh l f r'.right (redN (nn * r'.al) (dd * (r'.al + r'.ar))) (redD (nn * r'.al) (dd * (r'.al + r'.ar))) <;> rfl
                  · rw [HY2.out] at hys
                    cases hrr : sh l f r'.right (redN (nn * r'.al) (dd * (r'.al + r'.ar))) (redD (nn * r'.al) (dd * (r'.al + r'.ar))) with
                    | none => rw [hrr] at hys; cases hys
                    | some ys2 =>
                      rw [hrr] at hys
                      obtain rfl : ys1 ++ ys2 = ys := Option.some.inj hys
                      rw [← List.append_assoc]
                      exact HPRE5.out ys2 hrr

end Go.Proofs.Ytfigbdhfmlhjdaa

end

section
/- What is owned, or a block of its own, reads as a list. -/
namespace Go.Proofs.Ytfigbdhfmlhjdaa
open Go.RowKit

theorem Blk.reads {w : World} {g n size : Nat} {t : TypeId} {xs : List Value} (h : Blk w g t xs.toArray) (hl : xs.length = n * size) : Reads w w.heap.size size (some ⟨g, 0, none⟩) n xs :=
  ⟨hl, fun _ => ⟨g, 0, rfl, h.lt, fun j u hu => by rw [Nat.zero_add, h.cell j]; simpa using hu⟩⟩

theorem Reads.of_adds' {w : World} {B n size : Nat} {g : Nat} {xs : List Value} (hl : xs.length = n * size) (hb : g < B) (hc : ∀ j u, xs[j]? = some u → w.cell? ((⟨g, 0, none⟩ : Addr).add j) = some u) : Reads w B size (some ⟨g, 0, none⟩) n xs :=
  ⟨hl, fun _ => ⟨g, 0, rfl, hb, fun j u hu => by have := hc j u hu; rwa [add_lit] at this⟩⟩

theorem own_base {w : World} {base base' : Nat} {e : TypeId} {size n : Nat} {v : Value} {xs : List Value} (hb : base ≤ base') (h : w.ownsRow base' e size v n xs) : w.ownsRow base e size v n xs := by
  obtain ⟨h1, h2⟩ := h
  exact ⟨h1, h2.imp id fun ⟨g, cap, cur, hv, hg, r⟩ => ⟨g, cap, cur, hv, by omega, r⟩⟩

theorem own_reads {w : World} {base n size : Nat} {e : TypeId} {v : Value} {xs : List Value} (h : w.ownsRow base e size v n xs) : ∃ A c, v = .slice A n c ∧ Reads w w.heap.size size A n xs := by
  have hc := @World.ownsRow.cells _ _ _ _ _ _ _ h
  obtain ⟨h1, h2⟩ := h
  rcases h2 with ⟨rfl, rfl⟩ | ⟨g, cap, cur, rfl, hg, hh, _⟩
  · exact ⟨none, 0, rfl, h1, fun hn => absurd hn (by simp)⟩
  · refine ⟨some ⟨g, 0, none⟩, cap, rfl, Reads.of_adds' h1 (Array.getElem?_eq_some_iff.1 hh).1 (hc rfl)⟩

section
variable {P : Program} {ops : Array Oper} {Q : Exit → Act → World → Prop} {o : Oper} {rest : List Oper} {a : Act}
/-- A call of append whose run is known. -/
theorem wpList_app (w w' : World) (v' : Value) (hg : o.guard = none) (s x : Operand) (t : TypeId) (hop : o.op = .call { callee := .builtin .append, args := #[s, x], argTypes := #[t, t] }) (sv xv : Value) (hs : a.eval s = sv) (hx : a.eval x = xv)
    (hrun : (Builtin.append_ #[t, t] o.type #[sv, xv]).run P w = .ok v' w') (hK : wpList P ops Q rest (a.put o.dst v') w') : wpList P ops Q (o :: rest) a w := by
  refine wpList_plain hg fun K' hK' => ?_
  subst hs hx
  unfold Oper.wp
  rw [exec_append s x t hop hrun]
  exact hK' _ _ hK
end

end Go.Proofs.Ytfigbdhfmlhjdaa

end
