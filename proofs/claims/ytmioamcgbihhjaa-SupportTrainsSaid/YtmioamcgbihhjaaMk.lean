/- The class of worlds of a region whose order is left open and which makes a struct of two cells and stores into it. -/
import Derived.Test.YtmioamcgbihhjaaFxg
import Derived.Test.YtmioamcgbihhjaaMem
namespace Go.Proofs.Ytmioamcgbihhjaa
open Go.RowKit

/-- All that was there is as it was; the new block x, once it is made, holds two cells: v0 and v1 when operation s (the store) has come. -/
def MkD (T : TypeId) (v0 v1 : Value) (s : Nat) (W : World) (g : Option Nat) (f : Nat → Bool) (w' : World) : Prop :=
  Below W.heap.size W w' ∧ ∀ x, g = some x → W.heap.size ≤ x ∧ ∃ e0 e1, Blk w' x T #[e0, e1] ∧ (f s = true → e0 = v0 ∧ e1 = v1)

section
variable {T : TypeId} {v0 v1 : Value} {s : Nat} {W w' w'' : World} {g : Option Nat} {f : Nat → Bool} {x k : Nat}
theorem add_ne (hk : k ≠ s) : Fx.add f k s = f s := by
  unfold Fx.add
  cases h : s.beq k with
  | false => simp
  | true => exact absurd (Nat.eq_of_beq_eq_true h).symm hk
theorem MkD.start (h : Below W.heap.size W w') : MkD T v0 v1 s W none f w' := ⟨h, fun x h => by cases h⟩
theorem MkD.step (h : MkD T v0 v1 s W g f w') (hb : Below w'.heap.size w' w'') (hk : k ≠ s) : MkD T v0 v1 s W g (Fx.add f k) w'' := by
  refine ⟨h.1.trans (hb.mono h.1.size), fun x hx => ?_⟩
  obtain ⟨h1, e0, e1, h2, h3⟩ := h.2 x hx
  exact ⟨h1, e0, e1, h2.below hb h2.lt, fun h => h3 (by rwa [add_ne hk] at h)⟩
theorem MkD.make {a b : Value} (h : MkD T v0 v1 s W none f w') (hs : f s = false) (hk : k ≠ s) : MkD T v0 v1 s W (some w'.heap.size) (Fx.add f k) (w'.alloc (.cells #[a, b] T)) := by
  refine ⟨h.1.alloc h.1.size _, fun x hx => ?_⟩
  cases hx
  refine ⟨h.1.size, a, b, Blk.new _ _ _, fun h => ?_⟩
  rw [add_ne hk, hs] at h
  cases h
theorem MkD.store (h : MkD T v0 v1 s W (some x) f w') : MkD T v0 v1 s W (some x) (Fx.add f s) ((w'.setCell ⟨x, 0, none⟩ v0).setCell ⟨x, 1, none⟩ v1) := by
  obtain ⟨h1, e0, e1, h2, -⟩ := h.2 x rfl
  refine ⟨(h.1.setCell (p := ⟨x, 0, none⟩) h1 _).setCell (p := ⟨x, 1, none⟩) h1 _, fun y hy => ?_⟩
  cases hy
  refine ⟨h1, v0, v1, ?_, fun _ => ⟨rfl, rfl⟩⟩
  have := (h2.set_ 0 v0).set_ 1 v1
  simpa using this
theorem MkD.cells (h : MkD T v0 v1 s W (some x) f w') : ∃ e0 e1, w'.cell? ⟨x, 0, none⟩ = some e0 ∧ w'.cell? ⟨x, 1, none⟩ = some e1 ∧ w'.frozen? ⟨x, 0, none⟩ = false ∧ w'.frozen? ⟨x, 1, none⟩ = false := by
  obtain ⟨h1, e0, e1, h2, -⟩ := h.2 x rfl
  exact ⟨e0, e1, h2.cell 0, h2.cell 1, h2.frozen 0, h2.frozen 1⟩
end

end Go.Proofs.Ytmioamcgbihhjaa
