/-
  No cell of these rows narrows 'for every input' (looked for: loops, veiled, ifaces, maps, wideKeys, modest, calm, conditions, laid).
  DERIVED. THE GIVEN ROWS OF THIS SEAT. 6 by the template 'for every input the law returns true; each argument reads behind the call as it read before'; 0 by the template 'total and deterministic' (their statements: YtcbboaoakgngkaaTotals.lean).
  GIVEN WITH THE SEED: the statements are not yours to turn. If you find one false, say at which input.
  Laid BY PROGRAM, IN A SANDBOX (cutbox-rows.mjs): the forced cells as the released guide's own fill.sh prints them over the translation c8edc748a0277a13… (all of the seat's roots in one cut). By AI agents, Wed Nov 11 2026. No macro, syntax, notation, axiom, sorry.
-/
import Derived.Test.YtcbboaoakgngkaaChecked
import GoSem.Claim
import GoSem.ClaimJoined
import GoSem.ClaimMapViews
import Derived.JoinedTies
import Derived.KernelRfl
namespace Go.Proofs.Ytcbboaoakgngkaa
/- THE CELL 'sum', in the pinned program and in every row, IS THE sha256 OF THE DUMP (.gsa) THAT YtcbboaoakgngkaaProg.lean LOADS. Nothing in Lean hashes anything: it is a label: what it is worth is what the hold of that sum in a sandbox is worth. -/
noncomputable def Try.pinned : Pinned := { name := "ytcbboaoakgngkaa", sum := "c8edc748a0277a136548422e78d7c4fb743526a792fc220875d0fe9d03a01995", checked := Try.checked }
namespace Rows
def none {H : Type} : Left H := { results := [], args := [] }

/-- 'retrofitlaw23.VerifyDepths': WHATEVER THE INPUT: true; the input reads as it did. -/
def verifyDepthsSpec : ChangeSpec := { name := "verifyDepths", fn := fun _ => fun
  | [d] => { results := [.lit (.bool true)], args := [d] }
  | _ => none }
def verifyDepthsRow : OpenClaim := { program := "ytcbboaoakgngkaa", sum := "c8edc748a0277a136548422e78d7c4fb743526a792fc220875d0fe9d03a01995", func := "retrofit/retrofitlaw23.VerifyDepths", spec := "verifyDepths", inPlace := ["internal/bytealg.IndexByteString", "internal/bytealg.IndexString"], unfollowed := true, recurses := true, named := ["internal/bytealg.MaxLen"], apart := false }
def VerifyDepthsSaid : Prop := verifyDepthsRow.holds Try.pinned (OpenSpec.ofChange verifyDepthsSpec)

/-- ITS FALSE NEIGHBOUR: 'it returns false'. Refute it at one input. -/
def verifyDepthsWrong : ChangeSpec := { name := "verifyDepths", fn := fun _ => fun
  | [d] => { results := [.lit (.bool false)], args := [d] }
  | _ => none }
def VerifyDepthsWrongFalsely : Prop := verifyDepthsRow.holds Try.pinned (OpenSpec.ofChange verifyDepthsWrong)

/-- 'retrofitlaw23.VerifyExact': WHATEVER THE INPUT: true; the input reads as it did. -/
def verifyExactSpec : ChangeSpec := { name := "verifyExact", fn := fun _ => fun
  | [d1, d2] => { results := [.lit (.bool true)], args := [d1, d2] }
  | _ => none }
def verifyExactRow : OpenClaim := { program := "ytcbboaoakgngkaa", sum := "c8edc748a0277a136548422e78d7c4fb743526a792fc220875d0fe9d03a01995", func := "retrofit/retrofitlaw23.VerifyExact", spec := "verifyExact", inPlace := ["internal/bytealg.IndexByteString", "internal/bytealg.IndexString"], unfollowed := true, recurses := true, named := ["internal/bytealg.MaxLen"], apart := false }
def VerifyExactSaid : Prop := verifyExactRow.holds Try.pinned (OpenSpec.ofChange verifyExactSpec)

/-- ITS FALSE NEIGHBOUR: 'it returns false'. Refute it at one input. -/
def verifyExactWrong : ChangeSpec := { name := "verifyExact", fn := fun _ => fun
  | [d1, d2] => { results := [.lit (.bool false)], args := [d1, d2] }
  | _ => none }
def VerifyExactWrongFalsely : Prop := verifyExactRow.holds Try.pinned (OpenSpec.ofChange verifyExactWrong)

/-- 'retrofitlaw23.VerifyWalks': WHATEVER THE INPUT: true; the input reads as it did. -/
def verifyWalksSpec : ChangeSpec := { name := "verifyWalks", fn := fun _ => fun
  | [d1, d2] => { results := [.lit (.bool true)], args := [d1, d2] }
  | _ => none }
def verifyWalksRow : OpenClaim := { program := "ytcbboaoakgngkaa", sum := "c8edc748a0277a136548422e78d7c4fb743526a792fc220875d0fe9d03a01995", func := "retrofit/retrofitlaw23.VerifyWalks", spec := "verifyWalks", inPlace := ["internal/bytealg.IndexByteString", "internal/bytealg.IndexString"], unfollowed := true, recurses := true, named := ["internal/bytealg.MaxLen"], apart := false }
def VerifyWalksSaid : Prop := verifyWalksRow.holds Try.pinned (OpenSpec.ofChange verifyWalksSpec)

/-- ITS FALSE NEIGHBOUR: 'it returns false'. Refute it at one input. -/
def verifyWalksWrong : ChangeSpec := { name := "verifyWalks", fn := fun _ => fun
  | [d1, d2] => { results := [.lit (.bool false)], args := [d1, d2] }
  | _ => none }
def VerifyWalksWrongFalsely : Prop := verifyWalksRow.holds Try.pinned (OpenSpec.ofChange verifyWalksWrong)

/-- 'retrofitlaw25.SchedExact': WHATEVER THE INPUT: true; the input reads as it did. -/
def schedExactSpec : ChangeSpec := { name := "schedExact", fn := fun _ => fun
  | [d] => { results := [.lit (.bool true)], args := [d] }
  | _ => none }
def schedExactRow : OpenClaim := { program := "ytcbboaoakgngkaa", sum := "c8edc748a0277a136548422e78d7c4fb743526a792fc220875d0fe9d03a01995", func := "retrofit/retrofitlaw25.SchedExact", spec := "schedExact", inPlace := ["internal/bytealg.IndexByteString", "internal/bytealg.IndexString"], unfollowed := true, recurses := true, named := ["internal/bytealg.MaxLen"], apart := false }
def SchedExactSaid : Prop := schedExactRow.holds Try.pinned (OpenSpec.ofChange schedExactSpec)

/-- ITS FALSE NEIGHBOUR: 'it returns false'. Refute it at one input. -/
def schedExactWrong : ChangeSpec := { name := "schedExact", fn := fun _ => fun
  | [d] => { results := [.lit (.bool false)], args := [d] }
  | _ => none }
def SchedExactWrongFalsely : Prop := schedExactRow.holds Try.pinned (OpenSpec.ofChange schedExactWrong)

/-- 'retrofitlaw25.SchedAhead': WHATEVER THE INPUT: true; the input reads as it did. -/
def schedAheadSpec : ChangeSpec := { name := "schedAhead", fn := fun _ => fun
  | [d1, d2, d3, d4] => { results := [.lit (.bool true)], args := [d1, d2, d3, d4] }
  | _ => none }
def schedAheadRow : OpenClaim := { program := "ytcbboaoakgngkaa", sum := "c8edc748a0277a136548422e78d7c4fb743526a792fc220875d0fe9d03a01995", func := "retrofit/retrofitlaw25.SchedAhead", spec := "schedAhead", inPlace := ["internal/bytealg.IndexByteString", "internal/bytealg.IndexString"], unfollowed := true, recurses := true, named := ["internal/bytealg.MaxLen"], apart := false }
def SchedAheadSaid : Prop := schedAheadRow.holds Try.pinned (OpenSpec.ofChange schedAheadSpec)

/-- ITS FALSE NEIGHBOUR: 'it returns false'. Refute it at one input. -/
def schedAheadWrong : ChangeSpec := { name := "schedAhead", fn := fun _ => fun
  | [d1, d2, d3, d4] => { results := [.lit (.bool false)], args := [d1, d2, d3, d4] }
  | _ => none }
def SchedAheadWrongFalsely : Prop := schedAheadRow.holds Try.pinned (OpenSpec.ofChange schedAheadWrong)

/-- 'retrofitlaw25.SchedKeeps': WHATEVER THE INPUT: true; the input reads as it did. -/
def schedKeepsSpec : ChangeSpec := { name := "schedKeeps", fn := fun _ => fun
  | [d1, d2] => { results := [.lit (.bool true)], args := [d1, d2] }
  | _ => none }
def schedKeepsRow : OpenClaim := { program := "ytcbboaoakgngkaa", sum := "c8edc748a0277a136548422e78d7c4fb743526a792fc220875d0fe9d03a01995", func := "retrofit/retrofitlaw25.SchedKeeps", spec := "schedKeeps", inPlace := ["internal/bytealg.IndexByteString", "internal/bytealg.IndexString"], unfollowed := true, recurses := true, named := ["internal/bytealg.MaxLen"], apart := false }
def SchedKeepsSaid : Prop := schedKeepsRow.holds Try.pinned (OpenSpec.ofChange schedKeepsSpec)

/-- ITS FALSE NEIGHBOUR: 'it returns false'. Refute it at one input. -/
def schedKeepsWrong : ChangeSpec := { name := "schedKeeps", fn := fun _ => fun
  | [d1, d2] => { results := [.lit (.bool false)], args := [d1, d2] }
  | _ => none }
def SchedKeepsWrongFalsely : Prop := schedKeepsRow.holds Try.pinned (OpenSpec.ofChange schedKeepsWrong)

/- THE SECOND FORM. 'bulk': how many values and letters a reading holds, each counted each time it is reached (what is shared counts as often as it is met; a slice's spare places count too). A statement '..UptoSaid' is the law's where the arguments, and the package variables that the reading takes, are together of bulk at most 1048576: NARROWER than '..Said'. Prove '..Said' where nothing that the law and all that it calls make is longer than what came in: it says more and counts as full. Else prove '..UptoSaid'. A law counts once. -/
mutual
def uptoBulk {H : Type} : DataW H → Nat
  | .lit (.string bytes) => bytes.length + 1
  | .lit _ => 1
  | .nil => 1
  | .ptr d => uptoBulk d + 1
  | .slice elems spare => uptoBulkAll elems + uptoBulkAll spare + 1
  | .agg parts => uptoBulkAll parts + 1
  | .iface _ d => uptoBulk d + 1
  | .map entries => uptoBulkEntries entries + 1
  | .held _ => 1
def uptoBulkAll {H : Type} : List (DataW H) → Nat
  | [] => 0
  | d :: r => uptoBulk d + uptoBulkAll r
def uptoBulkEntries {H : Type} : List (Lit × DataW H) → Nat
  | [] => 0
  | x :: r => uptoBulkEntry x + uptoBulkEntries r
def uptoBulkEntry {H : Type} : Lit × DataW H → Nat
  | (.string bytes, d) => bytes.length + uptoBulk d + 1
  | (_, d) => uptoBulk d + 1
 end
def uptoSmall : (H : Type) → List (DataW H) → Bool := fun _ ds => decide (uptoBulkAll ds ≤ 1048576)
def OpenSpec.upto (s : _root_.Go.ChangeSpec) : _root_.Go.OpenSpec := { _root_.Go.OpenSpec.ofChange s with cond := some uptoSmall }

/-- 'retrofitlaw23.VerifyDepths', WHERE WHAT IT READS IS OF BULK AT MOST 1048576: true; the input reads as it did. -/
def verifyDepthsUptoRow : OpenClaim := { program := "ytcbboaoakgngkaa", sum := "c8edc748a0277a136548422e78d7c4fb743526a792fc220875d0fe9d03a01995", func := "retrofit/retrofitlaw23.VerifyDepths", spec := "verifyDepths", inPlace := ["internal/bytealg.IndexByteString", "internal/bytealg.IndexString"], unfollowed := true, recurses := true, named := ["internal/bytealg.MaxLen"], apart := false, narrowed := true }
def VerifyDepthsUptoSaid : Prop := verifyDepthsUptoRow.holds Try.pinned (OpenSpec.upto verifyDepthsSpec)

/-- 'retrofitlaw23.VerifyExact', WHERE WHAT IT READS IS OF BULK AT MOST 1048576: true; the input reads as it did. -/
def verifyExactUptoRow : OpenClaim := { program := "ytcbboaoakgngkaa", sum := "c8edc748a0277a136548422e78d7c4fb743526a792fc220875d0fe9d03a01995", func := "retrofit/retrofitlaw23.VerifyExact", spec := "verifyExact", inPlace := ["internal/bytealg.IndexByteString", "internal/bytealg.IndexString"], unfollowed := true, recurses := true, named := ["internal/bytealg.MaxLen"], apart := false, narrowed := true }
def VerifyExactUptoSaid : Prop := verifyExactUptoRow.holds Try.pinned (OpenSpec.upto verifyExactSpec)

/-- 'retrofitlaw23.VerifyWalks', WHERE WHAT IT READS IS OF BULK AT MOST 1048576: true; the input reads as it did. -/
def verifyWalksUptoRow : OpenClaim := { program := "ytcbboaoakgngkaa", sum := "c8edc748a0277a136548422e78d7c4fb743526a792fc220875d0fe9d03a01995", func := "retrofit/retrofitlaw23.VerifyWalks", spec := "verifyWalks", inPlace := ["internal/bytealg.IndexByteString", "internal/bytealg.IndexString"], unfollowed := true, recurses := true, named := ["internal/bytealg.MaxLen"], apart := false, narrowed := true }
def VerifyWalksUptoSaid : Prop := verifyWalksUptoRow.holds Try.pinned (OpenSpec.upto verifyWalksSpec)

/-- 'retrofitlaw25.SchedExact', WHERE WHAT IT READS IS OF BULK AT MOST 1048576: true; the input reads as it did. -/
def schedExactUptoRow : OpenClaim := { program := "ytcbboaoakgngkaa", sum := "c8edc748a0277a136548422e78d7c4fb743526a792fc220875d0fe9d03a01995", func := "retrofit/retrofitlaw25.SchedExact", spec := "schedExact", inPlace := ["internal/bytealg.IndexByteString", "internal/bytealg.IndexString"], unfollowed := true, recurses := true, named := ["internal/bytealg.MaxLen"], apart := false, narrowed := true }
def SchedExactUptoSaid : Prop := schedExactUptoRow.holds Try.pinned (OpenSpec.upto schedExactSpec)

/-- 'retrofitlaw25.SchedAhead', WHERE WHAT IT READS IS OF BULK AT MOST 1048576: true; the input reads as it did. -/
def schedAheadUptoRow : OpenClaim := { program := "ytcbboaoakgngkaa", sum := "c8edc748a0277a136548422e78d7c4fb743526a792fc220875d0fe9d03a01995", func := "retrofit/retrofitlaw25.SchedAhead", spec := "schedAhead", inPlace := ["internal/bytealg.IndexByteString", "internal/bytealg.IndexString"], unfollowed := true, recurses := true, named := ["internal/bytealg.MaxLen"], apart := false, narrowed := true }
def SchedAheadUptoSaid : Prop := schedAheadUptoRow.holds Try.pinned (OpenSpec.upto schedAheadSpec)

/-- 'retrofitlaw25.SchedKeeps', WHERE WHAT IT READS IS OF BULK AT MOST 1048576: true; the input reads as it did. -/
def schedKeepsUptoRow : OpenClaim := { program := "ytcbboaoakgngkaa", sum := "c8edc748a0277a136548422e78d7c4fb743526a792fc220875d0fe9d03a01995", func := "retrofit/retrofitlaw25.SchedKeeps", spec := "schedKeeps", inPlace := ["internal/bytealg.IndexByteString", "internal/bytealg.IndexString"], unfollowed := true, recurses := true, named := ["internal/bytealg.MaxLen"], apart := false, narrowed := true }
def SchedKeepsUptoSaid : Prop := schedKeepsUptoRow.holds Try.pinned (OpenSpec.upto schedKeepsSpec)

end Rows
end Go.Proofs.Ytcbboaoakgngkaa
