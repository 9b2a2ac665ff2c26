/-
  No cell of these rows narrows 'for every input' (looked for: loops, veiled, ifaces, maps, wideKeys, modest, calm, conditions, laid).
  DERIVED. THE GIVEN ROWS OF THIS SEAT. 3 by the template 'for every input the law returns true; each argument reads behind the call as it read before'; 0 by the template 'total and deterministic' (their statements: YtfehiclbcebnoaaTotals.lean).
  GIVEN WITH THE SEED: the statements are not yours to turn. If you find one false, say at which input.
  Laid BY PROGRAM, IN A SANDBOX (cutbox-rows.mjs): the forced cells as the released guide's own fill.sh prints them over the translation 0da3412c585e335b… (all of the seat's roots in one cut). By AI agents, Wed Nov 11 2026. No macro, syntax, notation, axiom, sorry.
-/
import Derived.Test.YtfehiclbcebnoaaChecked
import GoSem.Claim
import GoSem.ClaimJoined
import GoSem.ClaimMapViews
import Derived.JoinedTies
import Derived.KernelRfl
namespace Go.Proofs.Ytfehiclbcebnoaa
/- THE CELL 'sum', in the pinned program and in every row, IS THE sha256 OF THE DUMP (.gsa) THAT YtfehiclbcebnoaaProg.lean LOADS. Nothing in Lean hashes anything: it is a label: what it is worth is what the hold of that sum in a sandbox is worth. -/
noncomputable def Try.pinned : Pinned := { name := "ytfehiclbcebnoaa", sum := "0da3412c585e335b3d6cb2e89ef0f2f76c80f562e009b55450a228c973c45e30", checked := Try.checked }
namespace Rows
def none {H : Type} : Left H := { results := [], args := [] }

/-- 'retrofitlaw08.ScodeExact': WHATEVER THE INPUT: true; the input reads as it did. -/
def scodeExactSpec : ChangeSpec := { name := "scodeExact", fn := fun _ => fun
  | [d1, d2] => { results := [.lit (.bool true)], args := [d1, d2] }
  | _ => none }
def scodeExactRow : OpenClaim := { program := "ytfehiclbcebnoaa", sum := "0da3412c585e335b3d6cb2e89ef0f2f76c80f562e009b55450a228c973c45e30", func := "retrofit/retrofitlaw08.ScodeExact", spec := "scodeExact", inPlace := ["math/bits.Add64", "math/bits.Sub64", "internal/abi.NoEscape", "internal/bytealg.MakeNoZero"], unfollowed := true, recurses := true, apart := false }
def ScodeExactSaid : Prop := scodeExactRow.holds Try.pinned (OpenSpec.ofChange scodeExactSpec)

/-- ITS FALSE NEIGHBOUR: 'it returns false'. Refute it at one input. -/
def scodeExactWrong : ChangeSpec := { name := "scodeExact", fn := fun _ => fun
  | [d1, d2] => { results := [.lit (.bool false)], args := [d1, d2] }
  | _ => none }
def ScodeExactWrongFalsely : Prop := scodeExactRow.holds Try.pinned (OpenSpec.ofChange scodeExactWrong)

/-- 'retrofitlaw08.ScodeRows': WHATEVER THE INPUT: true; the input reads as it did. -/
def scodeRowsSpec : ChangeSpec := { name := "scodeRows", fn := fun _ => fun
  | [d1, d2, d3] => { results := [.lit (.bool true)], args := [d1, d2, d3] }
  | _ => none }
def scodeRowsRow : OpenClaim := { program := "ytfehiclbcebnoaa", sum := "0da3412c585e335b3d6cb2e89ef0f2f76c80f562e009b55450a228c973c45e30", func := "retrofit/retrofitlaw08.ScodeRows", spec := "scodeRows", inPlace := ["math/bits.Add64", "math/bits.Sub64", "internal/abi.NoEscape", "internal/bytealg.MakeNoZero"], unfollowed := true, recurses := true, apart := false }
def ScodeRowsSaid : Prop := scodeRowsRow.holds Try.pinned (OpenSpec.ofChange scodeRowsSpec)

/-- ITS FALSE NEIGHBOUR: 'it returns false'. Refute it at one input. -/
def scodeRowsWrong : ChangeSpec := { name := "scodeRows", fn := fun _ => fun
  | [d1, d2, d3] => { results := [.lit (.bool false)], args := [d1, d2, d3] }
  | _ => none }
def ScodeRowsWrongFalsely : Prop := scodeRowsRow.holds Try.pinned (OpenSpec.ofChange scodeRowsWrong)

/-- 'retrofitlaw08.ScodeBack': WHATEVER THE INPUT: true; the input reads as it did. -/
def scodeBackSpec : ChangeSpec := { name := "scodeBack", fn := fun _ => fun
  | [d1, d2, d3, d4] => { results := [.lit (.bool true)], args := [d1, d2, d3, d4] }
  | _ => none }
def scodeBackRow : OpenClaim := { program := "ytfehiclbcebnoaa", sum := "0da3412c585e335b3d6cb2e89ef0f2f76c80f562e009b55450a228c973c45e30", func := "retrofit/retrofitlaw08.ScodeBack", spec := "scodeBack", inPlace := ["math/bits.Add64", "math/bits.Sub64", "internal/abi.NoEscape", "internal/bytealg.MakeNoZero"], unfollowed := true, recurses := true, apart := false }
def ScodeBackSaid : Prop := scodeBackRow.holds Try.pinned (OpenSpec.ofChange scodeBackSpec)

/-- ITS FALSE NEIGHBOUR: 'it returns false'. Refute it at one input. -/
def scodeBackWrong : ChangeSpec := { name := "scodeBack", fn := fun _ => fun
  | [d1, d2, d3, d4] => { results := [.lit (.bool false)], args := [d1, d2, d3, d4] }
  | _ => none }
def ScodeBackWrongFalsely : Prop := scodeBackRow.holds Try.pinned (OpenSpec.ofChange scodeBackWrong)

/- THE SECOND FORM. 'bulk': how many values and letters a reading holds, each counted each time it is reached (what is shared counts as often as it is met; a slice's spare places count too). A statement '..UptoSaid' is the law's where the arguments, and the package variables that the reading takes, are together of bulk at most 1048576: NARROWER than '..Said'. Prove '..Said' where nothing that the law and all that it calls make is longer than what came in: it says more and counts as full. Else prove '..UptoSaid'. A law counts once. -/
mutual
def uptoBulk {H : Type} : DataW H → Nat
  | .lit (.string bytes) => bytes.length + 1
  | .lit _ => 1
  | .nil => 1
  | .ptr d => uptoBulk d + 1
  | .slice elems spare => uptoBulkAll elems + uptoBulkAll spare + 1
  | .agg parts => uptoBulkAll parts + 1
  | .iface _ d => uptoBulk d + 1
  | .map entries => uptoBulkEntries entries + 1
  | .held _ => 1
def uptoBulkAll {H : Type} : List (DataW H) → Nat
  | [] => 0
  | d :: r => uptoBulk d + uptoBulkAll r
def uptoBulkEntries {H : Type} : List (Lit × DataW H) → Nat
  | [] => 0
  | x :: r => uptoBulkEntry x + uptoBulkEntries r
def uptoBulkEntry {H : Type} : Lit × DataW H → Nat
  | (.string bytes, d) => bytes.length + uptoBulk d + 1
  | (_, d) => uptoBulk d + 1
 end
def uptoSmall : (H : Type) → List (DataW H) → Bool := fun _ ds => decide (uptoBulkAll ds ≤ 1048576)
def OpenSpec.upto (s : _root_.Go.ChangeSpec) : _root_.Go.OpenSpec := { _root_.Go.OpenSpec.ofChange s with cond := some uptoSmall }

/-- 'retrofitlaw08.ScodeExact', WHERE WHAT IT READS IS OF BULK AT MOST 1048576: true; the input reads as it did. -/
def scodeExactUptoRow : OpenClaim := { program := "ytfehiclbcebnoaa", sum := "0da3412c585e335b3d6cb2e89ef0f2f76c80f562e009b55450a228c973c45e30", func := "retrofit/retrofitlaw08.ScodeExact", spec := "scodeExact", inPlace := ["math/bits.Add64", "math/bits.Sub64", "internal/abi.NoEscape", "internal/bytealg.MakeNoZero"], unfollowed := true, recurses := true, apart := false, narrowed := true }
def ScodeExactUptoSaid : Prop := scodeExactUptoRow.holds Try.pinned (OpenSpec.upto scodeExactSpec)

/-- 'retrofitlaw08.ScodeRows', WHERE WHAT IT READS IS OF BULK AT MOST 1048576: true; the input reads as it did. -/
def scodeRowsUptoRow : OpenClaim := { program := "ytfehiclbcebnoaa", sum := "0da3412c585e335b3d6cb2e89ef0f2f76c80f562e009b55450a228c973c45e30", func := "retrofit/retrofitlaw08.ScodeRows", spec := "scodeRows", inPlace := ["math/bits.Add64", "math/bits.Sub64", "internal/abi.NoEscape", "internal/bytealg.MakeNoZero"], unfollowed := true, recurses := true, apart := false, narrowed := true }
def ScodeRowsUptoSaid : Prop := scodeRowsUptoRow.holds Try.pinned (OpenSpec.upto scodeRowsSpec)

/-- 'retrofitlaw08.ScodeBack', WHERE WHAT IT READS IS OF BULK AT MOST 1048576: true; the input reads as it did. -/
def scodeBackUptoRow : OpenClaim := { program := "ytfehiclbcebnoaa", sum := "0da3412c585e335b3d6cb2e89ef0f2f76c80f562e009b55450a228c973c45e30", func := "retrofit/retrofitlaw08.ScodeBack", spec := "scodeBack", inPlace := ["math/bits.Add64", "math/bits.Sub64", "internal/abi.NoEscape", "internal/bytealg.MakeNoZero"], unfollowed := true, recurses := true, apart := false, narrowed := true }
def ScodeBackUptoSaid : Prop := scodeBackUptoRow.holds Try.pinned (OpenSpec.upto scodeBackSpec)

end Rows
end Go.Proofs.Ytfehiclbcebnoaa
