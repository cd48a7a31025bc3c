/- Steps from one named world to the next: what a call that only makes memory leaves as it was. -/
import Derived.Test.YtmioamcgbihhjaaMem2
namespace Go.Proofs.Ytmioamcgbihhjaa
open Go.RowKit

section
variable {w W W1 : World}
theorem step_below (hb : Below W.heap.size W W1) (h : Below w.heap.size w W) : Below w.heap.size w W1 := h.trans (hb.mono h.size)
theorem step_belowAt {B : Nat} (hb : Below W.heap.size W W1) (h : Below B w W) (hB : B ≤ w.heap.size) : Below B w W1 := h.trans (hb.mono (Nat.le_trans hB h.size))
theorem step_blk {g : Nat} {t : TypeId} {cs : Array Value} (hb : Below W.heap.size W W1) (h : Blk W g t cs) : Blk W1 g t cs := h.below hb h.lt
theorem step_cell {b o : Nat} {v : Value} (hb : Below W.heap.size W W1) (h : W.cell? ⟨b, o, none⟩ = some v) (hp : b < W.heap.size) : W1.cell? ⟨b, o, none⟩ = some v := (hb.cell (p := ⟨b, o, none⟩) hp).trans h
theorem step_reads {B s n : Nat} {A : Option Addr} {xs : List Value} (hb : Below W.heap.size W W1) (h : Reads W B s A n xs) (hB : B ≤ W.heap.size) : Reads W1 B s A n xs := h.belowLe hb hB
/-- The cell of a slice's element. -/
theorem Reads.cell_ {B n k : Nat} {A : Option Addr} {xs : List Value} {v : Value} (h : Reads W B 1 A n xs) (hk : k < n) (hv : xs[k]? = some v) : ∃ b o, A = some ⟨b, o, none⟩ ∧ b < B ∧ W.cell? ⟨b, o + k, none⟩ = some v := by
  obtain ⟨b, o, u, hA, hb, hu, hc⟩ := h.at_ hk
  obtain rfl := Option.some.inj (hu.symm.trans hv)
  exact ⟨b, o, hA, hb, hc⟩
end
theorem ret_bool {a b : Bool} (h : a = b) : Ending.returned (.bool a) = .returned (.bool b) := by rw [h]
end Go.Proofs.Ytmioamcgbihhjaa
