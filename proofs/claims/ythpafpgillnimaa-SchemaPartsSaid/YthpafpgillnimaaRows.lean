/-
  No cell of these rows narrows 'for every input' (looked for: loops, veiled, ifaces, maps, wideKeys, modest, calm, conditions, laid).
  DERIVED. THE GIVEN ROWS OF THIS SEAT. 4 by the template 'for every input the law returns true; each argument reads behind the call as it read before'; 0 by the template 'total and deterministic' (their statements: YthpafpgillnimaaTotals.lean).
  GIVEN WITH THE SEED: the statements are not yours to turn. If you find one false, say at which input.
  Laid BY PROGRAM, IN A SANDBOX (cutbox-rows.mjs): the forced cells as the released guide's own fill.sh prints them over the translation 5392a44f17e57fbc… (all of the seat's roots in one cut). By AI agents, Wed Nov 11 2026. No macro, syntax, notation, axiom, sorry.
-/
import Derived.Test.YthpafpgillnimaaChecked
import GoSem.Claim
import GoSem.ClaimJoined
import GoSem.ClaimMapViews
import Derived.JoinedTies
import Derived.KernelRfl
namespace Go.Proofs.Ythpafpgillnimaa
/- THE CELL 'sum', in the pinned program and in every row, IS THE sha256 OF THE DUMP (.gsa) THAT YthpafpgillnimaaProg.lean LOADS. Nothing in Lean hashes anything: it is a label: what it is worth is what the hold of that sum in a sandbox is worth. -/
noncomputable def Try.pinned : Pinned := { name := "ythpafpgillnimaa", sum := "5392a44f17e57fbc1595fe6f8ccbbb351ae85b43cd122e7ba5abf3a94a177b3f", checked := Try.checked }
namespace Rows
def none {H : Type} : Left H := { results := [], args := [] }

/-- 'retrofitlaw07.SchemaExact': WHATEVER THE INPUT: true; the input reads as it did. -/
def schemaExactSpec : ChangeSpec := { name := "schemaExact", fn := fun _ => fun
  | [d1, d2, d3] => { results := [.lit (.bool true)], args := [d1, d2, d3] }
  | _ => none }
def schemaExactRow : OpenClaim := { program := "ythpafpgillnimaa", sum := "5392a44f17e57fbc1595fe6f8ccbbb351ae85b43cd122e7ba5abf3a94a177b3f", func := "retrofit/retrofitlaw07.SchemaExact", spec := "schemaExact", inPlace := ["math/bits.Add64", "math/bits.Sub64"], unfollowed := true, recurses := true, apart := false }
def SchemaExactSaid : Prop := schemaExactRow.holds Try.pinned (OpenSpec.ofChange schemaExactSpec)

/-- ITS FALSE NEIGHBOUR: 'it returns false'. Refute it at one input. -/
def schemaExactWrong : ChangeSpec := { name := "schemaExact", fn := fun _ => fun
  | [d1, d2, d3] => { results := [.lit (.bool false)], args := [d1, d2, d3] }
  | _ => none }
def SchemaExactWrongFalsely : Prop := schemaExactRow.holds Try.pinned (OpenSpec.ofChange schemaExactWrong)

/-- 'retrofitlaw07.SchemaParts': WHATEVER THE INPUT: true; the input reads as it did. -/
def schemaPartsSpec : ChangeSpec := { name := "schemaParts", fn := fun _ => fun
  | [d1, d2, d3] => { results := [.lit (.bool true)], args := [d1, d2, d3] }
  | _ => none }
def schemaPartsRow : OpenClaim := { program := "ythpafpgillnimaa", sum := "5392a44f17e57fbc1595fe6f8ccbbb351ae85b43cd122e7ba5abf3a94a177b3f", func := "retrofit/retrofitlaw07.SchemaParts", spec := "schemaParts", inPlace := ["math/bits.Add64", "math/bits.Sub64"], unfollowed := true, recurses := true, apart := false }
def SchemaPartsSaid : Prop := schemaPartsRow.holds Try.pinned (OpenSpec.ofChange schemaPartsSpec)

/-- ITS FALSE NEIGHBOUR: 'it returns false'. Refute it at one input. -/
def schemaPartsWrong : ChangeSpec := { name := "schemaParts", fn := fun _ => fun
  | [d1, d2, d3] => { results := [.lit (.bool false)], args := [d1, d2, d3] }
  | _ => none }
def SchemaPartsWrongFalsely : Prop := schemaPartsRow.holds Try.pinned (OpenSpec.ofChange schemaPartsWrong)

/-- 'retrofitlaw07.SchemaFinds': WHATEVER THE INPUT: true; the input reads as it did. -/
def schemaFindsSpec : ChangeSpec := { name := "schemaFinds", fn := fun _ => fun
  | [d1, d2, d3] => { results := [.lit (.bool true)], args := [d1, d2, d3] }
  | _ => none }
def schemaFindsRow : OpenClaim := { program := "ythpafpgillnimaa", sum := "5392a44f17e57fbc1595fe6f8ccbbb351ae85b43cd122e7ba5abf3a94a177b3f", func := "retrofit/retrofitlaw07.SchemaFinds", spec := "schemaFinds", inPlace := ["math/bits.Add64", "math/bits.Sub64"], unfollowed := true, recurses := true, apart := false }
def SchemaFindsSaid : Prop := schemaFindsRow.holds Try.pinned (OpenSpec.ofChange schemaFindsSpec)

/-- ITS FALSE NEIGHBOUR: 'it returns false'. Refute it at one input. -/
def schemaFindsWrong : ChangeSpec := { name := "schemaFinds", fn := fun _ => fun
  | [d1, d2, d3] => { results := [.lit (.bool false)], args := [d1, d2, d3] }
  | _ => none }
def SchemaFindsWrongFalsely : Prop := schemaFindsRow.holds Try.pinned (OpenSpec.ofChange schemaFindsWrong)

/-- 'retrofitlaw07.SchemaClones': WHATEVER THE INPUT: true; the input reads as it did. -/
def schemaClonesSpec : ChangeSpec := { name := "schemaClones", fn := fun _ => fun
  | [d1, d2, d3] => { results := [.lit (.bool true)], args := [d1, d2, d3] }
  | _ => none }
def schemaClonesRow : OpenClaim := { program := "ythpafpgillnimaa", sum := "5392a44f17e57fbc1595fe6f8ccbbb351ae85b43cd122e7ba5abf3a94a177b3f", func := "retrofit/retrofitlaw07.SchemaClones", spec := "schemaClones", inPlace := ["math/bits.Add64", "math/bits.Sub64"], unfollowed := true, recurses := true, apart := false }
def SchemaClonesSaid : Prop := schemaClonesRow.holds Try.pinned (OpenSpec.ofChange schemaClonesSpec)

/-- ITS FALSE NEIGHBOUR: 'it returns false'. Refute it at one input. -/
def schemaClonesWrong : ChangeSpec := { name := "schemaClones", fn := fun _ => fun
  | [d1, d2, d3] => { results := [.lit (.bool false)], args := [d1, d2, d3] }
  | _ => none }
def SchemaClonesWrongFalsely : Prop := schemaClonesRow.holds Try.pinned (OpenSpec.ofChange schemaClonesWrong)

/- THE SECOND FORM. 'bulk': how many values and letters a reading holds, each counted each time it is reached (what is shared counts as often as it is met; a slice's spare places count too). A statement '..UptoSaid' is the law's where the arguments, and the package variables that the reading takes, are together of bulk at most 1048576: NARROWER than '..Said'. Prove '..Said' where nothing that the law and all that it calls make is longer than what came in: it says more and counts as full. Else prove '..UptoSaid'. A law counts once. -/
mutual
def uptoBulk {H : Type} : DataW H → Nat
  | .lit (.string bytes) => bytes.length + 1
  | .lit _ => 1
  | .nil => 1
  | .ptr d => uptoBulk d + 1
  | .slice elems spare => uptoBulkAll elems + uptoBulkAll spare + 1
  | .agg parts => uptoBulkAll parts + 1
  | .iface _ d => uptoBulk d + 1
  | .map entries => uptoBulkEntries entries + 1
  | .held _ => 1
def uptoBulkAll {H : Type} : List (DataW H) → Nat
  | [] => 0
  | d :: r => uptoBulk d + uptoBulkAll r
def uptoBulkEntries {H : Type} : List (Lit × DataW H) → Nat
  | [] => 0
  | x :: r => uptoBulkEntry x + uptoBulkEntries r
def uptoBulkEntry {H : Type} : Lit × DataW H → Nat
  | (.string bytes, d) => bytes.length + uptoBulk d + 1
  | (_, d) => uptoBulk d + 1
 end
def uptoSmall : (H : Type) → List (DataW H) → Bool := fun _ ds => decide (uptoBulkAll ds ≤ 1048576)
def OpenSpec.upto (s : _root_.Go.ChangeSpec) : _root_.Go.OpenSpec := { _root_.Go.OpenSpec.ofChange s with cond := some uptoSmall }

/-- 'retrofitlaw07.SchemaExact', WHERE WHAT IT READS IS OF BULK AT MOST 1048576: true; the input reads as it did. -/
def schemaExactUptoRow : OpenClaim := { program := "ythpafpgillnimaa", sum := "5392a44f17e57fbc1595fe6f8ccbbb351ae85b43cd122e7ba5abf3a94a177b3f", func := "retrofit/retrofitlaw07.SchemaExact", spec := "schemaExact", inPlace := ["math/bits.Add64", "math/bits.Sub64"], unfollowed := true, recurses := true, apart := false, narrowed := true }
def SchemaExactUptoSaid : Prop := schemaExactUptoRow.holds Try.pinned (OpenSpec.upto schemaExactSpec)

/-- 'retrofitlaw07.SchemaParts', WHERE WHAT IT READS IS OF BULK AT MOST 1048576: true; the input reads as it did. -/
def schemaPartsUptoRow : OpenClaim := { program := "ythpafpgillnimaa", sum := "5392a44f17e57fbc1595fe6f8ccbbb351ae85b43cd122e7ba5abf3a94a177b3f", func := "retrofit/retrofitlaw07.SchemaParts", spec := "schemaParts", inPlace := ["math/bits.Add64", "math/bits.Sub64"], unfollowed := true, recurses := true, apart := false, narrowed := true }
def SchemaPartsUptoSaid : Prop := schemaPartsUptoRow.holds Try.pinned (OpenSpec.upto schemaPartsSpec)

/-- 'retrofitlaw07.SchemaFinds', WHERE WHAT IT READS IS OF BULK AT MOST 1048576: true; the input reads as it did. -/
def schemaFindsUptoRow : OpenClaim := { program := "ythpafpgillnimaa", sum := "5392a44f17e57fbc1595fe6f8ccbbb351ae85b43cd122e7ba5abf3a94a177b3f", func := "retrofit/retrofitlaw07.SchemaFinds", spec := "schemaFinds", inPlace := ["math/bits.Add64", "math/bits.Sub64"], unfollowed := true, recurses := true, apart := false, narrowed := true }
def SchemaFindsUptoSaid : Prop := schemaFindsUptoRow.holds Try.pinned (OpenSpec.upto schemaFindsSpec)

/-- 'retrofitlaw07.SchemaClones', WHERE WHAT IT READS IS OF BULK AT MOST 1048576: true; the input reads as it did. -/
def schemaClonesUptoRow : OpenClaim := { program := "ythpafpgillnimaa", sum := "5392a44f17e57fbc1595fe6f8ccbbb351ae85b43cd122e7ba5abf3a94a177b3f", func := "retrofit/retrofitlaw07.SchemaClones", spec := "schemaClones", inPlace := ["math/bits.Add64", "math/bits.Sub64"], unfollowed := true, recurses := true, apart := false, narrowed := true }
def SchemaClonesUptoSaid : Prop := schemaClonesUptoRow.holds Try.pinned (OpenSpec.upto schemaClonesSpec)

end Rows
end Go.Proofs.Ythpafpgillnimaa
