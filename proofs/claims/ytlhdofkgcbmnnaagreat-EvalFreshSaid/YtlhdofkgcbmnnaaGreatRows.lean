/-
  No cell of these rows narrows 'for every input' (looked for: loops, veiled, ifaces, maps, wideKeys, modest, calm, conditions, laid).
  DERIVED. THE GIVEN ROWS OF THIS SEAT. 6 by the template 'for every input the law returns true; each argument reads behind the call as it read before'; 0 by the template 'total and deterministic' (their statements: YtlhdofkgcbmnnaaGreatTotals.lean).
  GIVEN WITH THE SEED: the statements are not yours to turn. If you find one false, say at which input.
  Laid BY PROGRAM, IN A SANDBOX (cutbox-rows.mjs): the forced cells as the released guide's own fill.sh prints them over the translation 88a5cd25e0a75b65… (all of the seat's roots in one cut). By AI agents, Wed Nov 11 2026. No macro, syntax, notation, axiom, sorry.
-/
import Derived.Test.YtlhdofkgcbmnnaaGreatChecked
import GoSem.Claim
import GoSem.ClaimJoined
import GoSem.ClaimMapViews
import Derived.JoinedTies
import Derived.KernelRfl
namespace Go.Proofs.YtlhdofkgcbmnnaaGreat
/- THE CELL 'sum', in the pinned program and in every row, IS THE sha256 OF THE DUMP (.gsa) THAT YtlhdofkgcbmnnaaGreatProg.lean LOADS. Nothing in Lean hashes anything: it is a label: what it is worth is what the hold of that sum in a sandbox is worth. -/
noncomputable def Tryz.pinned : Pinned := { name := "ytlhdofkgcbmnnaagreat", sum := "88a5cd25e0a75b65e1ebdcecbcf8316a4a885315a249bbd4c6e330891e50f3dc", checked := Tryz.checked }
namespace Rows
def none {H : Type} : Left H := { results := [], args := [] }

/-- 'retrofitlaw14.EvalValues': WHATEVER THE INPUT: true; the input reads as it did. -/
def evalValuesSpec : ChangeSpec := { name := "evalValues", fn := fun _ => fun
  | [d1, d2, d3, d4] => { results := [.lit (.bool true)], args := [d1, d2, d3, d4] }
  | _ => none }
def evalValuesRow : OpenClaim := { program := "ytlhdofkgcbmnnaagreat", sum := "88a5cd25e0a75b65e1ebdcecbcf8316a4a885315a249bbd4c6e330891e50f3dc", func := "retrofit/retrofitlaw14.EvalValues", spec := "evalValues", inPlace := ["math/bits.Add64", "math/bits.Sub64", "internal/abi.NoEscape", "internal/bytealg.MakeNoZero"], unfollowed := true, recurses := true, apart := false }
def EvalValuesSaid : Prop := evalValuesRow.holds Tryz.pinned (OpenSpec.ofChange evalValuesSpec)

/-- ITS FALSE NEIGHBOUR: 'it returns false'. Refute it at one input. -/
def evalValuesWrong : ChangeSpec := { name := "evalValues", fn := fun _ => fun
  | [d1, d2, d3, d4] => { results := [.lit (.bool false)], args := [d1, d2, d3, d4] }
  | _ => none }
def EvalValuesWrongFalsely : Prop := evalValuesRow.holds Tryz.pinned (OpenSpec.ofChange evalValuesWrong)

/-- 'retrofitlaw14.EvalRows': WHATEVER THE INPUT: true; the input reads as it did. -/
def evalRowsSpec : ChangeSpec := { name := "evalRows", fn := fun _ => fun
  | [d1, d2, d3, d4] => { results := [.lit (.bool true)], args := [d1, d2, d3, d4] }
  | _ => none }
def evalRowsRow : OpenClaim := { program := "ytlhdofkgcbmnnaagreat", sum := "88a5cd25e0a75b65e1ebdcecbcf8316a4a885315a249bbd4c6e330891e50f3dc", func := "retrofit/retrofitlaw14.EvalRows", spec := "evalRows", inPlace := ["math/bits.Add64", "math/bits.Sub64", "internal/abi.NoEscape", "internal/bytealg.MakeNoZero"], unfollowed := true, recurses := true, apart := false }
def EvalRowsSaid : Prop := evalRowsRow.holds Tryz.pinned (OpenSpec.ofChange evalRowsSpec)

/-- ITS FALSE NEIGHBOUR: 'it returns false'. Refute it at one input. -/
def evalRowsWrong : ChangeSpec := { name := "evalRows", fn := fun _ => fun
  | [d1, d2, d3, d4] => { results := [.lit (.bool false)], args := [d1, d2, d3, d4] }
  | _ => none }
def EvalRowsWrongFalsely : Prop := evalRowsRow.holds Tryz.pinned (OpenSpec.ofChange evalRowsWrong)

/-- 'retrofitlaw14.EvalFresh': WHATEVER THE INPUT: true; the input reads as it did. -/
def evalFreshSpec : ChangeSpec := { name := "evalFresh", fn := fun _ => fun
  | [d1, d2, d3] => { results := [.lit (.bool true)], args := [d1, d2, d3] }
  | _ => none }
def evalFreshRow : OpenClaim := { program := "ytlhdofkgcbmnnaagreat", sum := "88a5cd25e0a75b65e1ebdcecbcf8316a4a885315a249bbd4c6e330891e50f3dc", func := "retrofit/retrofitlaw14.EvalFresh", spec := "evalFresh", inPlace := ["math/bits.Add64", "math/bits.Sub64", "internal/abi.NoEscape", "internal/bytealg.MakeNoZero"], unfollowed := true, recurses := true, apart := false }
def EvalFreshSaid : Prop := evalFreshRow.holds Tryz.pinned (OpenSpec.ofChange evalFreshSpec)

/-- ITS FALSE NEIGHBOUR: 'it returns false'. Refute it at one input. -/
def evalFreshWrong : ChangeSpec := { name := "evalFresh", fn := fun _ => fun
  | [d1, d2, d3] => { results := [.lit (.bool false)], args := [d1, d2, d3] }
  | _ => none }
def EvalFreshWrongFalsely : Prop := evalFreshRow.holds Tryz.pinned (OpenSpec.ofChange evalFreshWrong)

/-- 'retrofitlaw14.EvalParts': WHATEVER THE INPUT: true; the input reads as it did. -/
def evalPartsSpec : ChangeSpec := { name := "evalParts", fn := fun _ => fun
  | [d1, d2, d3, d4, d5] => { results := [.lit (.bool true)], args := [d1, d2, d3, d4, d5] }
  | _ => none }
def evalPartsRow : OpenClaim := { program := "ytlhdofkgcbmnnaagreat", sum := "88a5cd25e0a75b65e1ebdcecbcf8316a4a885315a249bbd4c6e330891e50f3dc", func := "retrofit/retrofitlaw14.EvalParts", spec := "evalParts", inPlace := ["math/bits.Add64", "math/bits.Sub64", "internal/abi.NoEscape", "internal/bytealg.MakeNoZero"], unfollowed := true, recurses := true, apart := false }
def EvalPartsSaid : Prop := evalPartsRow.holds Tryz.pinned (OpenSpec.ofChange evalPartsSpec)

/-- ITS FALSE NEIGHBOUR: 'it returns false'. Refute it at one input. -/
def evalPartsWrong : ChangeSpec := { name := "evalParts", fn := fun _ => fun
  | [d1, d2, d3, d4, d5] => { results := [.lit (.bool false)], args := [d1, d2, d3, d4, d5] }
  | _ => none }
def EvalPartsWrongFalsely : Prop := evalPartsRow.holds Tryz.pinned (OpenSpec.ofChange evalPartsWrong)

/-- 'retrofitlaw14.EvalWhole': WHATEVER THE INPUT: true; the input reads as it did. -/
def evalWholeSpec : ChangeSpec := { name := "evalWhole", fn := fun _ => fun
  | [d1, d2, d3, d4] => { results := [.lit (.bool true)], args := [d1, d2, d3, d4] }
  | _ => none }
def evalWholeRow : OpenClaim := { program := "ytlhdofkgcbmnnaagreat", sum := "88a5cd25e0a75b65e1ebdcecbcf8316a4a885315a249bbd4c6e330891e50f3dc", func := "retrofit/retrofitlaw14.EvalWhole", spec := "evalWhole", inPlace := ["math/bits.Add64", "math/bits.Sub64", "internal/abi.NoEscape", "internal/bytealg.MakeNoZero"], unfollowed := true, recurses := true, apart := false }
def EvalWholeSaid : Prop := evalWholeRow.holds Tryz.pinned (OpenSpec.ofChange evalWholeSpec)

/-- ITS FALSE NEIGHBOUR: 'it returns false'. Refute it at one input. -/
def evalWholeWrong : ChangeSpec := { name := "evalWhole", fn := fun _ => fun
  | [d1, d2, d3, d4] => { results := [.lit (.bool false)], args := [d1, d2, d3, d4] }
  | _ => none }
def EvalWholeWrongFalsely : Prop := evalWholeRow.holds Tryz.pinned (OpenSpec.ofChange evalWholeWrong)

/-- 'retrofitlaw14.EvalPlain': WHATEVER THE INPUT: true; the input reads as it did. -/
def evalPlainSpec : ChangeSpec := { name := "evalPlain", fn := fun _ => fun
  | [d1, d2, d3] => { results := [.lit (.bool true)], args := [d1, d2, d3] }
  | _ => none }
def evalPlainRow : OpenClaim := { program := "ytlhdofkgcbmnnaagreat", sum := "88a5cd25e0a75b65e1ebdcecbcf8316a4a885315a249bbd4c6e330891e50f3dc", func := "retrofit/retrofitlaw14.EvalPlain", spec := "evalPlain", inPlace := ["math/bits.Add64", "math/bits.Sub64", "internal/abi.NoEscape", "internal/bytealg.MakeNoZero"], unfollowed := true, recurses := true, apart := false }
def EvalPlainSaid : Prop := evalPlainRow.holds Tryz.pinned (OpenSpec.ofChange evalPlainSpec)

/-- ITS FALSE NEIGHBOUR: 'it returns false'. Refute it at one input. -/
def evalPlainWrong : ChangeSpec := { name := "evalPlain", fn := fun _ => fun
  | [d1, d2, d3] => { results := [.lit (.bool false)], args := [d1, d2, d3] }
  | _ => none }
def EvalPlainWrongFalsely : Prop := evalPlainRow.holds Tryz.pinned (OpenSpec.ofChange evalPlainWrong)

/- THE SECOND FORM. 'bulk': how many values and letters a reading holds, each counted each time it is reached (what is shared counts as often as it is met; a slice's spare places count too). A statement '..UptoSaid' is the law's where the arguments, and the package variables that the reading takes, are together of bulk at most 1048576: NARROWER than '..Said'. Prove '..Said' where nothing that the law and all that it calls make is longer than what came in: it says more and counts as full. Else prove '..UptoSaid'. A law counts once. -/
mutual
def uptoBulk {H : Type} : DataW H → Nat
  | .lit (.string bytes) => bytes.length + 1
  | .lit _ => 1
  | .nil => 1
  | .ptr d => uptoBulk d + 1
  | .slice elems spare => uptoBulkAll elems + uptoBulkAll spare + 1
  | .agg parts => uptoBulkAll parts + 1
  | .iface _ d => uptoBulk d + 1
  | .map entries => uptoBulkEntries entries + 1
  | .held _ => 1
def uptoBulkAll {H : Type} : List (DataW H) → Nat
  | [] => 0
  | d :: r => uptoBulk d + uptoBulkAll r
def uptoBulkEntries {H : Type} : List (Lit × DataW H) → Nat
  | [] => 0
  | x :: r => uptoBulkEntry x + uptoBulkEntries r
def uptoBulkEntry {H : Type} : Lit × DataW H → Nat
  | (.string bytes, d) => bytes.length + uptoBulk d + 1
  | (_, d) => uptoBulk d + 1
 end
def uptoSmall : (H : Type) → List (DataW H) → Bool := fun _ ds => decide (uptoBulkAll ds ≤ 1048576)
def OpenSpec.upto (s : _root_.Go.ChangeSpec) : _root_.Go.OpenSpec := { _root_.Go.OpenSpec.ofChange s with cond := some uptoSmall }

/-- 'retrofitlaw14.EvalValues', WHERE WHAT IT READS IS OF BULK AT MOST 1048576: true; the input reads as it did. -/
def evalValuesUptoRow : OpenClaim := { program := "ytlhdofkgcbmnnaagreat", sum := "88a5cd25e0a75b65e1ebdcecbcf8316a4a885315a249bbd4c6e330891e50f3dc", func := "retrofit/retrofitlaw14.EvalValues", spec := "evalValues", inPlace := ["math/bits.Add64", "math/bits.Sub64", "internal/abi.NoEscape", "internal/bytealg.MakeNoZero"], unfollowed := true, recurses := true, apart := false, narrowed := true }
def EvalValuesUptoSaid : Prop := evalValuesUptoRow.holds Tryz.pinned (OpenSpec.upto evalValuesSpec)

/-- 'retrofitlaw14.EvalRows', WHERE WHAT IT READS IS OF BULK AT MOST 1048576: true; the input reads as it did. -/
def evalRowsUptoRow : OpenClaim := { program := "ytlhdofkgcbmnnaagreat", sum := "88a5cd25e0a75b65e1ebdcecbcf8316a4a885315a249bbd4c6e330891e50f3dc", func := "retrofit/retrofitlaw14.EvalRows", spec := "evalRows", inPlace := ["math/bits.Add64", "math/bits.Sub64", "internal/abi.NoEscape", "internal/bytealg.MakeNoZero"], unfollowed := true, recurses := true, apart := false, narrowed := true }
def EvalRowsUptoSaid : Prop := evalRowsUptoRow.holds Tryz.pinned (OpenSpec.upto evalRowsSpec)

/-- 'retrofitlaw14.EvalFresh', WHERE WHAT IT READS IS OF BULK AT MOST 1048576: true; the input reads as it did. -/
def evalFreshUptoRow : OpenClaim := { program := "ytlhdofkgcbmnnaagreat", sum := "88a5cd25e0a75b65e1ebdcecbcf8316a4a885315a249bbd4c6e330891e50f3dc", func := "retrofit/retrofitlaw14.EvalFresh", spec := "evalFresh", inPlace := ["math/bits.Add64", "math/bits.Sub64", "internal/abi.NoEscape", "internal/bytealg.MakeNoZero"], unfollowed := true, recurses := true, apart := false, narrowed := true }
def EvalFreshUptoSaid : Prop := evalFreshUptoRow.holds Tryz.pinned (OpenSpec.upto evalFreshSpec)

/-- 'retrofitlaw14.EvalParts', WHERE WHAT IT READS IS OF BULK AT MOST 1048576: true; the input reads as it did. -/
def evalPartsUptoRow : OpenClaim := { program := "ytlhdofkgcbmnnaagreat", sum := "88a5cd25e0a75b65e1ebdcecbcf8316a4a885315a249bbd4c6e330891e50f3dc", func := "retrofit/retrofitlaw14.EvalParts", spec := "evalParts", inPlace := ["math/bits.Add64", "math/bits.Sub64", "internal/abi.NoEscape", "internal/bytealg.MakeNoZero"], unfollowed := true, recurses := true, apart := false, narrowed := true }
def EvalPartsUptoSaid : Prop := evalPartsUptoRow.holds Tryz.pinned (OpenSpec.upto evalPartsSpec)

/-- 'retrofitlaw14.EvalWhole', WHERE WHAT IT READS IS OF BULK AT MOST 1048576: true; the input reads as it did. -/
def evalWholeUptoRow : OpenClaim := { program := "ytlhdofkgcbmnnaagreat", sum := "88a5cd25e0a75b65e1ebdcecbcf8316a4a885315a249bbd4c6e330891e50f3dc", func := "retrofit/retrofitlaw14.EvalWhole", spec := "evalWhole", inPlace := ["math/bits.Add64", "math/bits.Sub64", "internal/abi.NoEscape", "internal/bytealg.MakeNoZero"], unfollowed := true, recurses := true, apart := false, narrowed := true }
def EvalWholeUptoSaid : Prop := evalWholeUptoRow.holds Tryz.pinned (OpenSpec.upto evalWholeSpec)

/-- 'retrofitlaw14.EvalPlain', WHERE WHAT IT READS IS OF BULK AT MOST 1048576: true; the input reads as it did. -/
def evalPlainUptoRow : OpenClaim := { program := "ytlhdofkgcbmnnaagreat", sum := "88a5cd25e0a75b65e1ebdcecbcf8316a4a885315a249bbd4c6e330891e50f3dc", func := "retrofit/retrofitlaw14.EvalPlain", spec := "evalPlain", inPlace := ["math/bits.Add64", "math/bits.Sub64", "internal/abi.NoEscape", "internal/bytealg.MakeNoZero"], unfollowed := true, recurses := true, apart := false, narrowed := true }
def EvalPlainUptoSaid : Prop := evalPlainUptoRow.holds Tryz.pinned (OpenSpec.upto evalPlainSpec)

end Rows
end Go.Proofs.YtlhdofkgcbmnnaaGreat
