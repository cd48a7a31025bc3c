/-
  No cell of these rows narrows 'for every input' (looked for: loops, veiled, ifaces, maps, wideKeys, modest, calm, conditions, laid).
  DERIVED. THE GIVEN ROWS OF THIS SEAT. 5 by the template 'for every input the law returns true; each argument reads behind the call as it read before'; 0 by the template 'total and deterministic' (their statements: YtoiconebcmneiabTotals.lean).
  GIVEN WITH THE SEED: the statements are not yours to turn. If you find one false, say at which input.
  Laid BY PROGRAM, IN A SANDBOX (cutbox-rows.mjs): the forced cells as the released guide's own fill.sh prints them over the translation a0267c37eec470ca… (all of the seat's roots in one cut). By AI agents, Wed Nov 11 2026. No macro, syntax, notation, axiom, sorry.
-/
import Derived.Test.YtoiconebcmneiabChecked
import GoSem.Claim
import GoSem.ClaimJoined
import GoSem.ClaimMapViews
import Derived.JoinedTies
import Derived.KernelRfl
namespace Go.Proofs.Ytoiconebcmneiab
/- THE CELL 'sum', in the pinned program and in every row, IS THE sha256 OF THE DUMP (.gsa) THAT YtoiconebcmneiabProg.lean LOADS. Nothing in Lean hashes anything: it is a label: what it is worth is what the hold of that sum in a sandbox is worth. -/
noncomputable def Try.pinned : Pinned := { name := "ytoiconebcmneiab", sum := "a0267c37eec470ca342289c5e858ff75615750e5de0b88779ad3fcb53c645051", checked := Try.checked }
namespace Rows
def none {H : Type} : Left H := { results := [], args := [] }

/-- 'speculumlaw07.SupportTables': WHATEVER THE INPUT: true; the input reads as it did. -/
def supportTablesSpec : ChangeSpec := { name := "supportTables", fn := fun _ => fun
  | [d1, d2, d3] => { results := [.lit (.bool true)], args := [d1, d2, d3] }
  | _ => none }
def supportTablesRow : OpenClaim := { program := "ytoiconebcmneiab", sum := "a0267c37eec470ca342289c5e858ff75615750e5de0b88779ad3fcb53c645051", func := "speculum/speculumlaw07.SupportTables", spec := "supportTables", unfollowed := true, recurses := true, apart := false }
def SupportTablesSaid : Prop := supportTablesRow.holds Try.pinned (OpenSpec.ofChange supportTablesSpec)

/-- ITS FALSE NEIGHBOUR: 'it returns false'. Refute it at one input. -/
def supportTablesWrong : ChangeSpec := { name := "supportTables", fn := fun _ => fun
  | [d1, d2, d3] => { results := [.lit (.bool false)], args := [d1, d2, d3] }
  | _ => none }
def SupportTablesWrongFalsely : Prop := supportTablesRow.holds Try.pinned (OpenSpec.ofChange supportTablesWrong)

/-- 'speculumlaw07.SupportArms': WHATEVER THE INPUT: true; the input reads as it did. -/
def supportArmsSpec : ChangeSpec := { name := "supportArms", fn := fun _ => fun
  | [d1, d2] => { results := [.lit (.bool true)], args := [d1, d2] }
  | _ => none }
def supportArmsRow : OpenClaim := { program := "ytoiconebcmneiab", sum := "a0267c37eec470ca342289c5e858ff75615750e5de0b88779ad3fcb53c645051", func := "speculum/speculumlaw07.SupportArms", spec := "supportArms", unfollowed := true, recurses := true, apart := false }
def SupportArmsSaid : Prop := supportArmsRow.holds Try.pinned (OpenSpec.ofChange supportArmsSpec)

/-- ITS FALSE NEIGHBOUR: 'it returns false'. Refute it at one input. -/
def supportArmsWrong : ChangeSpec := { name := "supportArms", fn := fun _ => fun
  | [d1, d2] => { results := [.lit (.bool false)], args := [d1, d2] }
  | _ => none }
def SupportArmsWrongFalsely : Prop := supportArmsRow.holds Try.pinned (OpenSpec.ofChange supportArmsWrong)

/-- 'speculumlaw07.SupportPivots': WHATEVER THE INPUT: true; the input reads as it did. -/
def supportPivotsSpec : ChangeSpec := { name := "supportPivots", fn := fun _ => fun
  | [d1, d2] => { results := [.lit (.bool true)], args := [d1, d2] }
  | _ => none }
def supportPivotsRow : OpenClaim := { program := "ytoiconebcmneiab", sum := "a0267c37eec470ca342289c5e858ff75615750e5de0b88779ad3fcb53c645051", func := "speculum/speculumlaw07.SupportPivots", spec := "supportPivots", unfollowed := true, recurses := true, apart := false }
def SupportPivotsSaid : Prop := supportPivotsRow.holds Try.pinned (OpenSpec.ofChange supportPivotsSpec)

/-- ITS FALSE NEIGHBOUR: 'it returns false'. Refute it at one input. -/
def supportPivotsWrong : ChangeSpec := { name := "supportPivots", fn := fun _ => fun
  | [d1, d2] => { results := [.lit (.bool false)], args := [d1, d2] }
  | _ => none }
def SupportPivotsWrongFalsely : Prop := supportPivotsRow.holds Try.pinned (OpenSpec.ofChange supportPivotsWrong)

/-- 'speculumtop.TopGearsBest': WHATEVER THE INPUT: true; the input reads as it did. -/
def topGearsBestSpec : ChangeSpec := { name := "topGearsBest", fn := fun _ => fun
  | [d1, d2, d3] => { results := [.lit (.bool true)], args := [d1, d2, d3] }
  | _ => none }
def topGearsBestRow : OpenClaim := { program := "ytoiconebcmneiab", sum := "a0267c37eec470ca342289c5e858ff75615750e5de0b88779ad3fcb53c645051", func := "speculum/speculumtop.TopGearsBest", spec := "topGearsBest", unfollowed := true, recurses := true, apart := false }
def TopGearsBestSaid : Prop := topGearsBestRow.holds Try.pinned (OpenSpec.ofChange topGearsBestSpec)

/-- ITS FALSE NEIGHBOUR: 'it returns false'. Refute it at one input. -/
def topGearsBestWrong : ChangeSpec := { name := "topGearsBest", fn := fun _ => fun
  | [d1, d2, d3] => { results := [.lit (.bool false)], args := [d1, d2, d3] }
  | _ => none }
def TopGearsBestWrongFalsely : Prop := topGearsBestRow.holds Try.pinned (OpenSpec.ofChange topGearsBestWrong)

/-- 'speculumtop.TopSharesExact': WHATEVER THE INPUT: true; the input reads as it did. -/
def topSharesExactSpec : ChangeSpec := { name := "topSharesExact", fn := fun _ => fun
  | [d1, d2] => { results := [.lit (.bool true)], args := [d1, d2] }
  | _ => none }
def topSharesExactRow : OpenClaim := { program := "ytoiconebcmneiab", sum := "a0267c37eec470ca342289c5e858ff75615750e5de0b88779ad3fcb53c645051", func := "speculum/speculumtop.TopSharesExact", spec := "topSharesExact", unfollowed := true, recurses := true, apart := false }
def TopSharesExactSaid : Prop := topSharesExactRow.holds Try.pinned (OpenSpec.ofChange topSharesExactSpec)

/-- ITS FALSE NEIGHBOUR: 'it returns false'. Refute it at one input. -/
def topSharesExactWrong : ChangeSpec := { name := "topSharesExact", fn := fun _ => fun
  | [d1, d2] => { results := [.lit (.bool false)], args := [d1, d2] }
  | _ => none }
def TopSharesExactWrongFalsely : Prop := topSharesExactRow.holds Try.pinned (OpenSpec.ofChange topSharesExactWrong)

/- THE SECOND FORM. 'bulk': how many values and letters a reading holds, each counted each time it is reached (what is shared counts as often as it is met; a slice's spare places count too). A statement '..UptoSaid' is the law's where the arguments, and the package variables that the reading takes, are together of bulk at most 1048576: NARROWER than '..Said'. Prove '..Said' where nothing that the law and all that it calls make is longer than what came in: it says more and counts as full. Else prove '..UptoSaid'. A law counts once. -/
mutual
def uptoBulk {H : Type} : DataW H → Nat
  | .lit (.string bytes) => bytes.length + 1
  | .lit _ => 1
  | .nil => 1
  | .ptr d => uptoBulk d + 1
  | .slice elems spare => uptoBulkAll elems + uptoBulkAll spare + 1
  | .agg parts => uptoBulkAll parts + 1
  | .iface _ d => uptoBulk d + 1
  | .map entries => uptoBulkEntries entries + 1
  | .held _ => 1
def uptoBulkAll {H : Type} : List (DataW H) → Nat
  | [] => 0
  | d :: r => uptoBulk d + uptoBulkAll r
def uptoBulkEntries {H : Type} : List (Lit × DataW H) → Nat
  | [] => 0
  | x :: r => uptoBulkEntry x + uptoBulkEntries r
def uptoBulkEntry {H : Type} : Lit × DataW H → Nat
  | (.string bytes, d) => bytes.length + uptoBulk d + 1
  | (_, d) => uptoBulk d + 1
 end
def uptoSmall : (H : Type) → List (DataW H) → Bool := fun _ ds => decide (uptoBulkAll ds ≤ 1048576)
def OpenSpec.upto (s : _root_.Go.ChangeSpec) : _root_.Go.OpenSpec := { _root_.Go.OpenSpec.ofChange s with cond := some uptoSmall }

/-- 'speculumlaw07.SupportTables', WHERE WHAT IT READS IS OF BULK AT MOST 1048576: true; the input reads as it did. -/
def supportTablesUptoRow : OpenClaim := { program := "ytoiconebcmneiab", sum := "a0267c37eec470ca342289c5e858ff75615750e5de0b88779ad3fcb53c645051", func := "speculum/speculumlaw07.SupportTables", spec := "supportTables", unfollowed := true, recurses := true, apart := false, narrowed := true }
def SupportTablesUptoSaid : Prop := supportTablesUptoRow.holds Try.pinned (OpenSpec.upto supportTablesSpec)

/-- 'speculumlaw07.SupportArms', WHERE WHAT IT READS IS OF BULK AT MOST 1048576: true; the input reads as it did. -/
def supportArmsUptoRow : OpenClaim := { program := "ytoiconebcmneiab", sum := "a0267c37eec470ca342289c5e858ff75615750e5de0b88779ad3fcb53c645051", func := "speculum/speculumlaw07.SupportArms", spec := "supportArms", unfollowed := true, recurses := true, apart := false, narrowed := true }
def SupportArmsUptoSaid : Prop := supportArmsUptoRow.holds Try.pinned (OpenSpec.upto supportArmsSpec)

/-- 'speculumlaw07.SupportPivots', WHERE WHAT IT READS IS OF BULK AT MOST 1048576: true; the input reads as it did. -/
def supportPivotsUptoRow : OpenClaim := { program := "ytoiconebcmneiab", sum := "a0267c37eec470ca342289c5e858ff75615750e5de0b88779ad3fcb53c645051", func := "speculum/speculumlaw07.SupportPivots", spec := "supportPivots", unfollowed := true, recurses := true, apart := false, narrowed := true }
def SupportPivotsUptoSaid : Prop := supportPivotsUptoRow.holds Try.pinned (OpenSpec.upto supportPivotsSpec)

/-- 'speculumtop.TopGearsBest', WHERE WHAT IT READS IS OF BULK AT MOST 1048576: true; the input reads as it did. -/
def topGearsBestUptoRow : OpenClaim := { program := "ytoiconebcmneiab", sum := "a0267c37eec470ca342289c5e858ff75615750e5de0b88779ad3fcb53c645051", func := "speculum/speculumtop.TopGearsBest", spec := "topGearsBest", unfollowed := true, recurses := true, apart := false, narrowed := true }
def TopGearsBestUptoSaid : Prop := topGearsBestUptoRow.holds Try.pinned (OpenSpec.upto topGearsBestSpec)

/-- 'speculumtop.TopSharesExact', WHERE WHAT IT READS IS OF BULK AT MOST 1048576: true; the input reads as it did. -/
def topSharesExactUptoRow : OpenClaim := { program := "ytoiconebcmneiab", sum := "a0267c37eec470ca342289c5e858ff75615750e5de0b88779ad3fcb53c645051", func := "speculum/speculumtop.TopSharesExact", spec := "topSharesExact", unfollowed := true, recurses := true, apart := false, narrowed := true }
def TopSharesExactUptoSaid : Prop := topSharesExactUptoRow.holds Try.pinned (OpenSpec.upto topSharesExactSpec)

end Rows
end Go.Proofs.Ytoiconebcmneiab
