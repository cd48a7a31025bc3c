/- What every row of a statement needs: the arguments of a call that only makes memory read behind it as they did before. -/
import Derived.Test.YtmioamcgbihhjaaRows
import Derived.Test.YtmioamcgbihhjaaMem
import Derived.ProofKit
import Derived.OpenShut
import Derived.ReadAgain
import Derived.Lib.SmallJoins
import Derived.Deep.Slices
import Derived.Deep.Fields
namespace Go.Proofs.Ytmioamcgbihhjaa
open Go.RowKit Go.ChangeShapes Go.WideShapes Go.ChangeAt

theorem own_knob : ownKnob Try.prog.godebug = none := by kernel_rfl
theorem laid_rows : laidOutB Try.prog = true := by kernel_rfl
theorem maps_rowed : mapsRowed Try.prog = true := by kernel_rfl
theorem slices_full : ∀ t e, t < Try.prog.types.size → Try.prog.underlying t = some (.slice e) → 0 < Try.prog.cellsOf e := slices_full_of _ (by kernel_rfl)

section
variable {H : Type} {enc : TypeId × Value → H} {P : Program} {W W' : World}

theorem sameAt_of_below {B : Nat} (hb : Below B W W') {p : MemPlace} (hp : p.block < B) : W.sameAt W' p := by
  cases p with
  | cell b o => exact hb.cell (p := ⟨b, o, none⟩) hp
  | map b => exact hb.block b hp

theorem trodAll_carry {base : Nat} {sp : Nat → Bool} {hd : Bool} : ∀ {ts : List TypeId} {vs : List Value} {ds : List (DataW H)} {ps : List MemPlace},
    DataW.TrodAll enc P W base sp hd ts vs ds ps → (∀ p ∈ ps, W.sameAt W' p) → DataW.TrodAll enc P W' base sp hd ts vs ds ps
  | [], [], [], _, h, _ => h
  | _ :: _, _ :: _, _ :: _, _, ⟨p, q, ⟨n, h1⟩, h2, e⟩, hs => ⟨p, q, ⟨n, DataW.trod_carry n _ _ _ h1 fun x hx => hs x (by rw [e]; exact List.mem_append_left _ hx)⟩,
      trodAll_carry h2 (fun x hx => hs x (by rw [e]; exact List.mem_append_right _ hx)), e⟩

set_option maxRecDepth 100000 in
/-- THE POST OF A LAW: it returned true, and made memory alone. -/
theorem post_law {f : Func} {s : ChangeSpec} {t : TypeId} {W W' : World} {args : Array Value} {ds gs : List (DataW H)} {before : List MemPlace}
    (hW : DataW.Whole enc Try.prog f.params.toList s.vars false W args.toList ds gs before) (hv : s.vars = []) (hr : f.resultTypes = #[t]) (ht : Try.prog.underlying t = some .bool)
    (hp : f.params.toList.all (fun t => decide (t < Try.prog.types.size)) = true) (hs : (s.fn H (ds ++ gs)).results = [.lit (.bool true)]) (ha : (s.fn H (ds ++ gs)).args = ds) (hg : (s.fn H (ds ++ gs)).vars = [])
    (hb : Below W.heap.size W W') : s.post enc Try.prog f false true false false W args (.bool true) W' := by
  have hW' := hW
  obtain ⟨p, q, hA, hV, rfl, hfz, hnd⟩ := hW'
  rw [hv] at hV
  have hV' : gs = [] ∧ q = [] := by
    cases gs with
    | nil => exact ⟨rfl, hV⟩
    | cons x l => exact hV.elim
  obtain ⟨rfl, rfl⟩ := hV'
  rw [List.append_nil] at hW
  have hT : ∀ t ∈ f.params.toList, t < Try.prog.types.size := fun t ht => by simpa using List.all_eq_true.1 hp t ht
  refine post_of_below (pa := p) (pv := []) hW (fun b sp hd => ?_) (fun sp hsp => ?_) (fun sp hsp => ?_) (by simp) hb ?_
  · rw [hr, hs]
    exact ⟨[], [], ⟨1, by simp [DataW.trod, ht, Value.cells]⟩, rfl, rfl⟩
  · rw [ha]
    exact trodAll_carry (DataW.TrodAll.respare (kids_rows laid_rows maps_rowed) slices_full hT hA hsp) fun x hx => sameAt_of_below hb (hW.lt x hx)
  · rw [hv, hg]
    rfl
  · exact ok_one hr rfl (okWide_bool_mk ht _)
end

end Go.Proofs.Ytmioamcgbihhjaa
