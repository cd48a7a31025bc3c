import Derived.Test.YtfigbdhfmlhjdaaQ8
import Derived.Test.YtfigbdhfmlhjdaaQ1
import Derived.Test.YtfigbdhfmlhjdaaQ13
import Derived.Test.YtfigbdhfmlhjdaaQ5
import Derived.Test.YtfigbdhfmlhjdaaQ9
import Derived.Test.YtfigbdhfmlhjdaaQ11
import Derived.Test.YtfigbdhfmlhjdaaQ12
import Derived.Test.YtfigbdhfmlhjdaaQ7

section
/- The class of worlds of a region whose order is left open and which makes a struct of two cells and stores into it. -/
namespace Go.Proofs.Ytfigbdhfmlhjdaa
open Go.RowKit

/-- All that was there is as it was; the new block x, once it is made, holds two cells: v0 and v1 when operation s (the store) has come. -/
def MkD (T : TypeId) (v0 v1 : Value) (s : Nat) (W : World) (g : Option Nat) (f : Nat → Bool) (w' : World) : Prop :=
  Below W.heap.size W w' ∧ ∀ x, g = some x → W.heap.size ≤ x ∧ ∃ e0 e1, Blk w' x T #[e0, e1] ∧ (f s = true → e0 = v0 ∧ e1 = v1)

section
variable {T : TypeId} {v0 v1 : Value} {s : Nat} {W w' w'' : World} {g : Option Nat} {f : Nat → Bool} {x k : Nat}
theorem add_ne (hk : k ≠ s) : Fx.add f k s = f s := by
  unfold Fx.add
  cases h : s.beq k with
  | false => simp
  | true => exact absurd (Nat.eq_of_beq_eq_true h).symm hk
theorem MkD.start (h : Below W.heap.size W w') : MkD T v0 v1 s W none f w' := ⟨h, fun x h => by cases h⟩
theorem MkD.step (h : MkD T v0 v1 s W g f w') (hb : Below w'.heap.size w' w'') (hk : k ≠ s) : MkD T v0 v1 s W g (Fx.add f k) w'' := by
  refine ⟨h.1.trans (hb.mono h.1.size), fun x hx => ?_⟩
  obtain ⟨h1, e0, e1, h2, h3⟩ := h.2 x hx
  exact ⟨h1, e0, e1, h2.below hb h2.lt, fun h => h3 (by rwa [add_ne hk] at h)⟩
theorem MkD.make {a b : Value} (h : MkD T v0 v1 s W none f w') (hs : f s = false) (hk : k ≠ s) : MkD T v0 v1 s W (some w'.heap.size) (Fx.add f k) (w'.alloc (.cells #[a, b] T)) := by
  refine ⟨h.1.alloc h.1.size _, fun x hx => ?_⟩
  cases hx
  refine ⟨h.1.size, a, b, Blk.new _ _ _, fun h => ?_⟩
  rw [add_ne hk, hs] at h
  cases h
theorem MkD.store (h : MkD T v0 v1 s W (some x) f w') : MkD T v0 v1 s W (some x) (Fx.add f s) ((w'.setCell ⟨x, 0, none⟩ v0).setCell ⟨x, 1, none⟩ v1) := by
  obtain ⟨h1, e0, e1, h2, -⟩ := h.2 x rfl
  refine ⟨(h.1.setCell (p := ⟨x, 0, none⟩) h1 _).setCell (p := ⟨x, 1, none⟩) h1 _, fun y hy => ?_⟩
  cases hy
  refine ⟨h1, v0, v1, ?_, fun _ => ⟨rfl, rfl⟩⟩
  have := (h2.set_ 0 v0).set_ 1 v1
  simpa using this
theorem MkD.cells (h : MkD T v0 v1 s W (some x) f w') : ∃ e0 e1, w'.cell? ⟨x, 0, none⟩ = some e0 ∧ w'.cell? ⟨x, 1, none⟩ = some e1 ∧ w'.frozen? ⟨x, 0, none⟩ = false ∧ w'.frozen? ⟨x, 1, none⟩ = false := by
  obtain ⟨h1, e0, e1, h2, -⟩ := h.2 x rfl
  exact ⟨e0, e1, h2.cell 0, h2.cell 1, h2.frozen 0, h2.frozen 1⟩
end

/-- A block g of two cells is stored into, each cell once (operations s0, s1); all below g is as it was. -/
def UpD (T : TypeId) (g : Nat) (r0 r1 m0 m1 : Value) (s0 s1 : Nat) (W : World) (f : Nat → Bool) (w' : World) : Prop :=
  Below g W w' ∧ ∃ e0 e1, Blk w' g T #[e0, e1] ∧ (f s0 = false → e0 = r0) ∧ (f s0 = true → e0 = m0) ∧ (f s1 = false → e1 = r1) ∧ (f s1 = true → e1 = m1)
section
variable {T : TypeId} {g : Nat} {r0 r1 m0 m1 : Value} {s0 s1 k : Nat} {W w' w'' : World} {f : Nat → Bool}
theorem UpD.start (h : Below g W w') (hg : Blk w' g T #[r0, r1]) (h0 : f s0 = false) (h1 : f s1 = false) : UpD T g r0 r1 m0 m1 s0 s1 W f w' :=
  ⟨h, r0, r1, hg, fun _ => rfl, fun e => (by rw [h0] at e; cases e), fun _ => rfl, fun e => (by rw [h1] at e; cases e)⟩
theorem UpD.same (h : UpD T g r0 r1 m0 m1 s0 s1 W f w') (k0 : k ≠ s0) (k1 : k ≠ s1) : UpD T g r0 r1 m0 m1 s0 s1 W (Fx.add f k) w' := by
  obtain ⟨h1, e0, e1, h2, a, b, c, d⟩ := h
  refine ⟨h1, e0, e1, h2, ?_, ?_, ?_, ?_⟩
  · rw [add_ne k0]; exact a
  · rw [add_ne k0]; exact b
  · rw [add_ne k1]; exact c
  · rw [add_ne k1]; exact d
theorem UpD.end_ (h : UpD T g r0 r1 m0 m1 s0 s1 W f w') (h0 : f s0 = true) (h1 : f s1 = true) : Below g W w' ∧ Blk w' g T #[m0, m1] := by
  obtain ⟨h1', e0, e1, h2, a, b, c, d⟩ := h
  exact ⟨h1', b h0 ▸ d h1 ▸ h2⟩
end

end Go.Proofs.Ytfigbdhfmlhjdaa

end

section
/- The reference's functions on trains of gears: the check, the products, the ratio and the turns. -/
namespace Go.Proofs.Ytfigbdhfmlhjdaa
open Go.RowKit



/-- All products from one on, and whether all are small. -/
def begF : Int × Int → List (Int × Int) → List (Int × Int) × Bool
  | f, [] => ([f], true)
  | f, g :: l => if smallB (f.1 * g.1) (f.2 * g.2) then (f :: (begF (redN (f.1 * g.1) (f.2 * g.2), redD (f.1 * g.1) (f.2 * g.2)) l).1, (begF (redN (f.1 * g.1) (f.2 * g.2), redD (f.1 * g.1) (f.2 * g.2)) l).2) else ([f], false)

def BegPost (l : List (Int × Int)) (w : World) (e : Ending) (w' : World) : Prop :=
  Below w.heap.size w w' ∧ ((begF (1, 1) l).2 = true → ∃ A c, e = .returned (.tuple #[.slice A (l.length + 1) c, .bool true]) ∧ Reads w' w'.heap.size 2 A (l.length + 1) (cells2 (begF (1, 1) l).1)) ∧
    ((begF (1, 1) l).2 = false → e = .returned (.tuple #[.slice none 0 0, .bool false]))

end Go.Proofs.Ytfigbdhfmlhjdaa

end

section
/- Lists that are known to read so, from one named world to the next. -/
namespace Go.Proofs.Ytfigbdhfmlhjdaa
open Go.RowKit

section
variable {w W W1 : World}
theorem reads_mid (_ : Below W.heap.size W W1) {wa : World} (h : Below wa.heap.size wa W) : Below wa.heap.size wa W := h
theorem reads_lay (hb : Below W.heap.size W W1) {wa : World} (ha : Below wa.heap.size wa W) {s n : Nat} {A : Option Addr} {xs : List Value} (h : Reads wa wa.heap.size s A n xs) : Reads W1 W1.heap.size s A n xs :=
  ((h.below ha).below (hb.mono ha.size)).more (Nat.le_trans ha.size hb.size)
end
end Go.Proofs.Ytfigbdhfmlhjdaa

end

section
/- Contracts of the reference's shares. -/
namespace Go.Proofs.Ytfigbdhfmlhjdaa
open Go.RowKit

set_option maxHeartbeats 1000000 in
theorem place_is (xs : List ByteArray) (A : Option Addr) (n c N : Nat) (s : ByteArray) (i : Nat) (hi : xs[i]? = some s) (hf : ∀ j, j < i → ∀ x, xs[j]? = some x → x ≠ s) (w : World) (hx : Reads w N 1 A n (strs xs)) (hn : n ≤ 1000000) :
    Calls Try.prog 58 #[.slice A n c, .string s] w fun e w' => e = .returned (.int .i64 (i : Int)) ∧ w = w' := by
  have hxl := hx.len1
  have hin : i < n := by rw [← hxl]; exact (List.getElem?_eq_some_iff.1 hi).1
  have HX := Lib.hid hx
  have HI := Lib.hid hi
  have HFST := Lib.hid hf
  clear hx hi hf hxl
  go_enter Try.func58, Try.ntmps58
  go_wp2
  go_loop [5] (fun t => ∃ k : Nat, k ≤ i ∧ t = .int .i64 k) (fun t => n - (intOf t).toNat)
  case atStart => exact ⟨0, by omega, rfl⟩
  case round =>
    obtain ⟨k, hk, rfl⟩ := hrel
    obtain ⟨xb, xo, x, rfl, hxb, hr, c0⟩ := HX.out.str (i := k) (by omega)
    have HR := Lib.hid hr
    clear hr
    by_cases he : k = i
    · obtain rfl : x = s := Option.some.inj (HR.out.symm.trans (he ▸ HI.out))
      have hq := str_eq (rfl : x = x)
      have hkn : (k : Int) < (n : Int) := by omega
      have HK := Lib.hid he
      clear he
      go_wp2
      go_ret
      exact ⟨ret_int (by rw [HK.out]), rfl⟩
    · have hq := str_ne (HFST.out k (by omega) x HR.out)
      have hkn : (k : Int) < (n : Int) := by omega
      go_wp2
      go_round
      case rel => exact ⟨k + 1, by omega, by go_num⟩
      case measure => simp [intOf]; omega

/-- What multiplication by a part of both arms yields: the product in lowest terms, or nothing and an error. -/
def mulR (nn dd a b : Int) : (Int × Int) × Int := if smallB (nn * a) (dd * b) = true then ((redN (nn * a) (dd * b), redD (nn * a) (dd * b)), 0) else ((0, 0), 8)

/-- What a walk below a thing leaves: the list of shares is changed in the places of its points. -/
def RShPost (m ob : Nat) (o1 o2 : List (Int × Int)) (res : Option (List (Int × Int))) (w : World) (e : Ending) (w' : World) : Prop :=
  w.grownBy w' (some ob) ∧ e = .returned (.bool res.isSome) ∧ ∃ zs, zs.length = m ∧ Blk w' ob 35 (cells2 zs).toArray ∧ ∀ ys, res = some ys → zs = o1 ++ ys ++ o2

/-- The same of the world alone. -/
def RShW (m ob : Nat) (o1 o2 : List (Int × Int)) (res : Option (List (Int × Int))) (w w' : World) : Prop :=
  w.grownBy w' (some ob) ∧ ∃ zs, zs.length = m ∧ Blk w' ob 35 (cells2 zs).toArray ∧ ∀ ys, res = some ys → zs = o1 ++ ys ++ o2

end Go.Proofs.Ytfigbdhfmlhjdaa

end

section
/- Contracts of all shares as the reference has them, and of its check of shares. -/
namespace Go.Proofs.Ytfigbdhfmlhjdaa
open Go.RowKit

def RSharesPost (l : List Rk) (m : Nat) (w : World) (e : Ending) (w' : World) : Prop :=
  Below w.heap.size w w' ∧ ∃ A' c', e = .returned (.tuple #[.slice A' m c', .bool (sharesOf l).isSome]) ∧ ∀ ys, sharesOf l = some ys → Reads w' w'.heap.size 2 A' m (cells2 ys)

/-- The error of the first fraction that is not right. -/
def fracsErr : List (Int × Int) → Int
  | [] => 0
  | p :: l => if fracErr p.1 p.2 ≠ 0 then fracErr p.1 p.2 else fracsErr l
/-- The error of shares of a right tree with so many points. -/
def cksErr (np : Nat) (res : Option (List (Int × Int))) (xs : List (Int × Int)) : Int :=
  if xs.length ≠ np then 10 else if fracsErr xs ≠ 0 then fracsErr xs else match res with
    | none => 8
    | some ys => if ys = xs then 0 else 22

def Small2 (l : List (Int × Int)) : Prop := ∀ p ∈ l, (-9223372036854775808 ≤ p.1 ∧ p.1 ≤ 9223372036854775807) ∧ (-9223372036854775808 ≤ p.2 ∧ p.2 ≤ 9223372036854775807)


end Go.Proofs.Ytfigbdhfmlhjdaa

end

section
/- The contract of what the points below both sides of each rocker carry. -/
namespace Go.Proofs.Ytfigbdhfmlhjdaa
open Go.RowKit Go.Shelf Go.Maps

attribute [local go_sem] Oper.semAt_some

def posM (ps : List ByteArray) (xs : List Int) (k : Nat) (u : ByteArray) : Option Value := (posOf (ps.take k) u).map fun i => .int .i64 (xs.getD i 0)

/-- What both sides of the rockers carry. -/
def sidesOf (l : List Rk) (ps : List ByteArray) (xs : List Int) : List (Int × Int) := l.map fun r => (underI l ps xs r.left, underI l ps xs r.right)
/-- The same up to a rocker, behind which nothing has been added up. -/
def upto_ (l : List Rk) (ps : List ByteArray) (xs : List Int) (k : Nat) : List (Int × Int) := (sidesOf l ps xs).take k ++ List.replicate (l.length - k) (0, 0)

theorem exec_put {P : Program} {o : Oper} {a : Act} {w w' : World} (m x v : Operand) (t : TypeId) (ho : o.op = .mapUpdate t m x v) (hrun : (Instr.mapUpdate t (a.eval m) (a.eval x) (a.eval v)).run P w = .ok () w') : (execOp a.eval o).run P w = .ok .skip w' := by
  unfold execOp
  simp [ho, hrun, Result.andThen]


def SumsPost (l : List Rk) (ps : List ByteArray) (xs : List Int) (n : Nat) (w : World) (e : Ending) (w' : World) : Prop :=
  Below w.heap.size w w' ∧ ∃ A' c', e = .returned (.slice A' n c') ∧ Reads w' w'.heap.size 2 A' n (cells2 (sidesOf l ps xs)) ∧ ∀ b o, A' = some ⟨b, o, none⟩ → w.heap.size ≤ b

end Go.Proofs.Ytfigbdhfmlhjdaa

end
