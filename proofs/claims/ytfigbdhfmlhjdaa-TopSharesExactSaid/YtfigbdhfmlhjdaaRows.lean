/-
  No cell of these rows narrows 'for every input' (looked for: loops, veiled, ifaces, maps, wideKeys, modest, calm, conditions, laid).
  DERIVED. THE GIVEN ROWS OF THIS SEAT. 2 by the template 'for every input the law returns true; each argument reads behind the call as it read before'; 0 by the template 'total and deterministic' (their statements: YtfigbdhfmlhjdaaTotals.lean).
  GIVEN WITH THE SEED: the statements are not yours to turn. If you find one false, say at which input.
  Laid BY PROGRAM, IN A SANDBOX (cutbox-rows.mjs): the forced cells as the released guide's own fill.sh prints them over the translation 3ff071e0384f391a… (all of the seat's roots in one cut). By AI agents, Wed Nov 11 2026. No macro, syntax, notation, axiom, sorry.
-/
import Derived.Test.YtfigbdhfmlhjdaaChecked
import GoSem.Claim
import GoSem.ClaimJoined
import GoSem.ClaimMapViews
import Derived.JoinedTies
import Derived.KernelRfl
namespace Go.Proofs.Ytfigbdhfmlhjdaa
/- THE CELL 'sum', in the pinned program and in every row, IS THE sha256 OF THE DUMP (.gsa) THAT YtfigbdhfmlhjdaaProg.lean LOADS. Nothing in Lean hashes anything: it is a label: what it is worth is what the hold of that sum in a sandbox is worth. -/
noncomputable def Try.pinned : Pinned := { name := "ytfigbdhfmlhjdaa", sum := "3ff071e0384f391af3bf7ade7c4b1d4866ba1331e87e0299ca2a9e7f208dd40d", checked := Try.checked }
namespace Rows
def none {H : Type} : Left H := { results := [], args := [] }

/-- 'speculumlaw07.SupportPivots': WHATEVER THE INPUT: true; the input reads as it did. -/
def supportPivotsSpec : ChangeSpec := { name := "supportPivots", fn := fun _ => fun
  | [d1, d2] => { results := [.lit (.bool true)], args := [d1, d2] }
  | _ => none }
def supportPivotsRow : OpenClaim := { program := "ytfigbdhfmlhjdaa", sum := "3ff071e0384f391af3bf7ade7c4b1d4866ba1331e87e0299ca2a9e7f208dd40d", func := "speculum/speculumlaw07.SupportPivots", spec := "supportPivots", unfollowed := true, recurses := true, apart := false }
def SupportPivotsSaid : Prop := supportPivotsRow.holds Try.pinned (OpenSpec.ofChange supportPivotsSpec)

/-- ITS FALSE NEIGHBOUR: 'it returns false'. Refute it at one input. -/
def supportPivotsWrong : ChangeSpec := { name := "supportPivots", fn := fun _ => fun
  | [d1, d2] => { results := [.lit (.bool false)], args := [d1, d2] }
  | _ => none }
def SupportPivotsWrongFalsely : Prop := supportPivotsRow.holds Try.pinned (OpenSpec.ofChange supportPivotsWrong)

/-- 'speculumtop.TopSharesExact': WHATEVER THE INPUT: true; the input reads as it did. -/
def topSharesExactSpec : ChangeSpec := { name := "topSharesExact", fn := fun _ => fun
  | [d1, d2] => { results := [.lit (.bool true)], args := [d1, d2] }
  | _ => none }
def topSharesExactRow : OpenClaim := { program := "ytfigbdhfmlhjdaa", sum := "3ff071e0384f391af3bf7ade7c4b1d4866ba1331e87e0299ca2a9e7f208dd40d", func := "speculum/speculumtop.TopSharesExact", spec := "topSharesExact", unfollowed := true, recurses := true, apart := false }
def TopSharesExactSaid : Prop := topSharesExactRow.holds Try.pinned (OpenSpec.ofChange topSharesExactSpec)

/-- ITS FALSE NEIGHBOUR: 'it returns false'. Refute it at one input. -/
def topSharesExactWrong : ChangeSpec := { name := "topSharesExact", fn := fun _ => fun
  | [d1, d2] => { results := [.lit (.bool false)], args := [d1, d2] }
  | _ => none }
def TopSharesExactWrongFalsely : Prop := topSharesExactRow.holds Try.pinned (OpenSpec.ofChange topSharesExactWrong)

/- THE SECOND FORM. 'bulk': how many values and letters a reading holds, each counted each time it is reached (what is shared counts as often as it is met; a slice's spare places count too). A statement '..UptoSaid' is the law's where the arguments, and the package variables that the reading takes, are together of bulk at most 1048576: NARROWER than '..Said'. Prove '..Said' where nothing that the law and all that it calls make is longer than what came in: it says more and counts as full. Else prove '..UptoSaid'. A law counts once. -/
mutual
def uptoBulk {H : Type} : DataW H → Nat
  | .lit (.string bytes) => bytes.length + 1
  | .lit _ => 1
  | .nil => 1
  | .ptr d => uptoBulk d + 1
  | .slice elems spare => uptoBulkAll elems + uptoBulkAll spare + 1
  | .agg parts => uptoBulkAll parts + 1
  | .iface _ d => uptoBulk d + 1
  | .map entries => uptoBulkEntries entries + 1
  | .held _ => 1
def uptoBulkAll {H : Type} : List (DataW H) → Nat
  | [] => 0
  | d :: r => uptoBulk d + uptoBulkAll r
def uptoBulkEntries {H : Type} : List (Lit × DataW H) → Nat
  | [] => 0
  | x :: r => uptoBulkEntry x + uptoBulkEntries r
def uptoBulkEntry {H : Type} : Lit × DataW H → Nat
  | (.string bytes, d) => bytes.length + uptoBulk d + 1
  | (_, d) => uptoBulk d + 1
 end
def uptoSmall : (H : Type) → List (DataW H) → Bool := fun _ ds => decide (uptoBulkAll ds ≤ 1048576)
def OpenSpec.upto (s : _root_.Go.ChangeSpec) : _root_.Go.OpenSpec := { _root_.Go.OpenSpec.ofChange s with cond := some uptoSmall }

/-- 'speculumlaw07.SupportPivots', WHERE WHAT IT READS IS OF BULK AT MOST 1048576: true; the input reads as it did. -/
def supportPivotsUptoRow : OpenClaim := { program := "ytfigbdhfmlhjdaa", sum := "3ff071e0384f391af3bf7ade7c4b1d4866ba1331e87e0299ca2a9e7f208dd40d", func := "speculum/speculumlaw07.SupportPivots", spec := "supportPivots", unfollowed := true, recurses := true, apart := false, narrowed := true }
def SupportPivotsUptoSaid : Prop := supportPivotsUptoRow.holds Try.pinned (OpenSpec.upto supportPivotsSpec)

/-- 'speculumtop.TopSharesExact', WHERE WHAT IT READS IS OF BULK AT MOST 1048576: true; the input reads as it did. -/
def topSharesExactUptoRow : OpenClaim := { program := "ytfigbdhfmlhjdaa", sum := "3ff071e0384f391af3bf7ade7c4b1d4866ba1331e87e0299ca2a9e7f208dd40d", func := "speculum/speculumtop.TopSharesExact", spec := "topSharesExact", unfollowed := true, recurses := true, apart := false, narrowed := true }
def TopSharesExactUptoSaid : Prop := topSharesExactUptoRow.holds Try.pinned (OpenSpec.upto topSharesExactSpec)

end Rows
end Go.Proofs.Ytfigbdhfmlhjdaa
