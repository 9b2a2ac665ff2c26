/-
  No cell of these rows narrows 'for every input' (looked for: loops, veiled, ifaces, maps, wideKeys, modest, calm, conditions, laid).
  DERIVED. THE GIVEN ROWS OF THIS SEAT. 4 by the template 'for every input the law returns true; each argument reads behind the call as it read before'; 0 by the template 'total and deterministic' (their statements: YtmckidhedogcaaaTotals.lean).
  GIVEN WITH THE SEED: the statements are not yours to turn. If you find one false, say at which input.
  Laid BY PROGRAM, IN A SANDBOX (cutbox-rows.mjs): the forced cells as the released guide's own fill.sh prints them over the translation d8d3535f371a35d3… (all of the seat's roots in one cut). By AI agents, Wed Nov 11 2026. No macro, syntax, notation, axiom, sorry.
-/
import Derived.Test.YtmckidhedogcaaaChecked
import GoSem.Claim
import GoSem.ClaimJoined
import GoSem.ClaimMapViews
import Derived.JoinedTies
import Derived.KernelRfl
namespace Go.Proofs.Ytmckidhedogcaaa
/- THE CELL 'sum', in the pinned program and in every row, IS THE sha256 OF THE DUMP (.gsa) THAT YtmckidhedogcaaaProg.lean LOADS. Nothing in Lean hashes anything: it is a label: what it is worth is what the hold of that sum in a sandbox is worth. -/
noncomputable def Try.pinned : Pinned := { name := "ytmckidhedogcaaa", sum := "d8d3535f371a35d3d67a16f2e5f74df86f604219f77bad586c310928bb830573", checked := Try.checked }
namespace Rows
def none {H : Type} : Left H := { results := [], args := [] }

/-- 'retrofitlaw15.EntityHandles': WHATEVER THE INPUT: true; the input reads as it did. -/
def entityHandlesSpec : ChangeSpec := { name := "entityHandles", fn := fun _ => fun
  | [d1, d2, d3] => { results := [.lit (.bool true)], args := [d1, d2, d3] }
  | _ => none }
def entityHandlesRow : OpenClaim := { program := "ytmckidhedogcaaa", sum := "d8d3535f371a35d3d67a16f2e5f74df86f604219f77bad586c310928bb830573", func := "retrofit/retrofitlaw15.EntityHandles", spec := "entityHandles", unfollowed := true, recurses := true, apart := false }
def EntityHandlesSaid : Prop := entityHandlesRow.holds Try.pinned (OpenSpec.ofChange entityHandlesSpec)

/-- ITS FALSE NEIGHBOUR: 'it returns false'. Refute it at one input. -/
def entityHandlesWrong : ChangeSpec := { name := "entityHandles", fn := fun _ => fun
  | [d1, d2, d3] => { results := [.lit (.bool false)], args := [d1, d2, d3] }
  | _ => none }
def EntityHandlesWrongFalsely : Prop := entityHandlesRow.holds Try.pinned (OpenSpec.ofChange entityHandlesWrong)

/-- 'retrofitlaw15.EntityLeast': WHATEVER THE INPUT: true; the input reads as it did. -/
def entityLeastSpec : ChangeSpec := { name := "entityLeast", fn := fun _ => fun
  | [d1, d2, d3] => { results := [.lit (.bool true)], args := [d1, d2, d3] }
  | _ => none }
def entityLeastRow : OpenClaim := { program := "ytmckidhedogcaaa", sum := "d8d3535f371a35d3d67a16f2e5f74df86f604219f77bad586c310928bb830573", func := "retrofit/retrofitlaw15.EntityLeast", spec := "entityLeast", unfollowed := true, recurses := true, apart := false }
def EntityLeastSaid : Prop := entityLeastRow.holds Try.pinned (OpenSpec.ofChange entityLeastSpec)

/-- ITS FALSE NEIGHBOUR: 'it returns false'. Refute it at one input. -/
def entityLeastWrong : ChangeSpec := { name := "entityLeast", fn := fun _ => fun
  | [d1, d2, d3] => { results := [.lit (.bool false)], args := [d1, d2, d3] }
  | _ => none }
def EntityLeastWrongFalsely : Prop := entityLeastRow.holds Try.pinned (OpenSpec.ofChange entityLeastWrong)

/-- 'retrofitlaw15.EntityNever': WHATEVER THE INPUT: true; the input reads as it did. -/
def entityNeverSpec : ChangeSpec := { name := "entityNever", fn := fun _ => fun
  | [d1, d2, d3] => { results := [.lit (.bool true)], args := [d1, d2, d3] }
  | _ => none }
def entityNeverRow : OpenClaim := { program := "ytmckidhedogcaaa", sum := "d8d3535f371a35d3d67a16f2e5f74df86f604219f77bad586c310928bb830573", func := "retrofit/retrofitlaw15.EntityNever", spec := "entityNever", unfollowed := true, recurses := true, apart := false }
def EntityNeverSaid : Prop := entityNeverRow.holds Try.pinned (OpenSpec.ofChange entityNeverSpec)

/-- ITS FALSE NEIGHBOUR: 'it returns false'. Refute it at one input. -/
def entityNeverWrong : ChangeSpec := { name := "entityNever", fn := fun _ => fun
  | [d1, d2, d3] => { results := [.lit (.bool false)], args := [d1, d2, d3] }
  | _ => none }
def EntityNeverWrongFalsely : Prop := entityNeverRow.holds Try.pinned (OpenSpec.ofChange entityNeverWrong)

/-- 'retrofitlaw15.EntityExact': WHATEVER THE INPUT: true; the input reads as it did. -/
def entityExactSpec : ChangeSpec := { name := "entityExact", fn := fun _ => fun
  | [d1, d2, d3] => { results := [.lit (.bool true)], args := [d1, d2, d3] }
  | _ => none }
def entityExactRow : OpenClaim := { program := "ytmckidhedogcaaa", sum := "d8d3535f371a35d3d67a16f2e5f74df86f604219f77bad586c310928bb830573", func := "retrofit/retrofitlaw15.EntityExact", spec := "entityExact", unfollowed := true, recurses := true, apart := false }
def EntityExactSaid : Prop := entityExactRow.holds Try.pinned (OpenSpec.ofChange entityExactSpec)

/-- ITS FALSE NEIGHBOUR: 'it returns false'. Refute it at one input. -/
def entityExactWrong : ChangeSpec := { name := "entityExact", fn := fun _ => fun
  | [d1, d2, d3] => { results := [.lit (.bool false)], args := [d1, d2, d3] }
  | _ => none }
def EntityExactWrongFalsely : Prop := entityExactRow.holds Try.pinned (OpenSpec.ofChange entityExactWrong)

/- THE SECOND FORM. 'bulk': how many values and letters a reading holds, each counted each time it is reached (what is shared counts as often as it is met; a slice's spare places count too). A statement '..UptoSaid' is the law's where the arguments, and the package variables that the reading takes, are together of bulk at most 1048576: NARROWER than '..Said'. Prove '..Said' where nothing that the law and all that it calls make is longer than what came in: it says more and counts as full. Else prove '..UptoSaid'. A law counts once. -/
mutual
def uptoBulk {H : Type} : DataW H → Nat
  | .lit (.string bytes) => bytes.length + 1
  | .lit _ => 1
  | .nil => 1
  | .ptr d => uptoBulk d + 1
  | .slice elems spare => uptoBulkAll elems + uptoBulkAll spare + 1
  | .agg parts => uptoBulkAll parts + 1
  | .iface _ d => uptoBulk d + 1
  | .map entries => uptoBulkEntries entries + 1
  | .held _ => 1
def uptoBulkAll {H : Type} : List (DataW H) → Nat
  | [] => 0
  | d :: r => uptoBulk d + uptoBulkAll r
def uptoBulkEntries {H : Type} : List (Lit × DataW H) → Nat
  | [] => 0
  | x :: r => uptoBulkEntry x + uptoBulkEntries r
def uptoBulkEntry {H : Type} : Lit × DataW H → Nat
  | (.string bytes, d) => bytes.length + uptoBulk d + 1
  | (_, d) => uptoBulk d + 1
 end
def uptoSmall : (H : Type) → List (DataW H) → Bool := fun _ ds => decide (uptoBulkAll ds ≤ 1048576)
def OpenSpec.upto (s : _root_.Go.ChangeSpec) : _root_.Go.OpenSpec := { _root_.Go.OpenSpec.ofChange s with cond := some uptoSmall }

/-- 'retrofitlaw15.EntityHandles', WHERE WHAT IT READS IS OF BULK AT MOST 1048576: true; the input reads as it did. -/
def entityHandlesUptoRow : OpenClaim := { program := "ytmckidhedogcaaa", sum := "d8d3535f371a35d3d67a16f2e5f74df86f604219f77bad586c310928bb830573", func := "retrofit/retrofitlaw15.EntityHandles", spec := "entityHandles", unfollowed := true, recurses := true, apart := false, narrowed := true }
def EntityHandlesUptoSaid : Prop := entityHandlesUptoRow.holds Try.pinned (OpenSpec.upto entityHandlesSpec)

/-- 'retrofitlaw15.EntityLeast', WHERE WHAT IT READS IS OF BULK AT MOST 1048576: true; the input reads as it did. -/
def entityLeastUptoRow : OpenClaim := { program := "ytmckidhedogcaaa", sum := "d8d3535f371a35d3d67a16f2e5f74df86f604219f77bad586c310928bb830573", func := "retrofit/retrofitlaw15.EntityLeast", spec := "entityLeast", unfollowed := true, recurses := true, apart := false, narrowed := true }
def EntityLeastUptoSaid : Prop := entityLeastUptoRow.holds Try.pinned (OpenSpec.upto entityLeastSpec)

/-- 'retrofitlaw15.EntityNever', WHERE WHAT IT READS IS OF BULK AT MOST 1048576: true; the input reads as it did. -/
def entityNeverUptoRow : OpenClaim := { program := "ytmckidhedogcaaa", sum := "d8d3535f371a35d3d67a16f2e5f74df86f604219f77bad586c310928bb830573", func := "retrofit/retrofitlaw15.EntityNever", spec := "entityNever", unfollowed := true, recurses := true, apart := false, narrowed := true }
def EntityNeverUptoSaid : Prop := entityNeverUptoRow.holds Try.pinned (OpenSpec.upto entityNeverSpec)

/-- 'retrofitlaw15.EntityExact', WHERE WHAT IT READS IS OF BULK AT MOST 1048576: true; the input reads as it did. -/
def entityExactUptoRow : OpenClaim := { program := "ytmckidhedogcaaa", sum := "d8d3535f371a35d3d67a16f2e5f74df86f604219f77bad586c310928bb830573", func := "retrofit/retrofitlaw15.EntityExact", spec := "entityExact", unfollowed := true, recurses := true, apart := false, narrowed := true }
def EntityExactUptoSaid : Prop := entityExactUptoRow.holds Try.pinned (OpenSpec.upto entityExactSpec)

end Rows
end Go.Proofs.Ytmckidhedogcaaa
