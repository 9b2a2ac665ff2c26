/-
  No cell of these rows narrows 'for every input' (looked for: loops, veiled, ifaces, maps, wideKeys, modest, calm, conditions, laid).
  DERIVED. THE GIVEN ROWS OF THIS SEAT. 3 by the template 'for every input the law returns true; each argument reads behind the call as it read before'; 0 by the template 'total and deterministic' (their statements: YtcdmegaebcjnlaaTotals.lean).
  GIVEN WITH THE SEED: the statements are not yours to turn. If you find one false, say at which input.
  Laid BY PROGRAM, IN A SANDBOX (cutbox-rows.mjs): the forced cells as the released guide's own fill.sh prints them over the translation 1aeedca89d8495da… (all of the seat's roots in one cut). By AI agents, Wed Nov 11 2026. No macro, syntax, notation, axiom, sorry.
-/
import Derived.Test.YtcdmegaebcjnlaaChecked
import GoSem.Claim
import GoSem.ClaimJoined
import GoSem.ClaimMapViews
import Derived.JoinedTies
import Derived.KernelRfl
namespace Go.Proofs.Ytcdmegaebcjnlaa
/- THE CELL 'sum', in the pinned program and in every row, IS THE sha256 OF THE DUMP (.gsa) THAT YtcdmegaebcjnlaaProg.lean LOADS. Nothing in Lean hashes anything: it is a label: what it is worth is what the hold of that sum in a sandbox is worth. -/
noncomputable def Try.pinned : Pinned := { name := "ytcdmegaebcjnlaa", sum := "1aeedca89d8495daf58dc618c6b0d82094bce8f04450d17c7e91c4614a1922f6", checked := Try.checked }
namespace Rows
def none {H : Type} : Left H := { results := [], args := [] }

/-- 'retrofitlaw06.ColumnKeeps': WHATEVER THE INPUT: true; the input reads as it did. -/
def columnKeepsSpec : ChangeSpec := { name := "columnKeeps", fn := fun _ => fun
  | [d1, d2] => { results := [.lit (.bool true)], args := [d1, d2] }
  | _ => none }
def columnKeepsRow : OpenClaim := { program := "ytcdmegaebcjnlaa", sum := "1aeedca89d8495daf58dc618c6b0d82094bce8f04450d17c7e91c4614a1922f6", func := "retrofit/retrofitlaw06.ColumnKeeps", spec := "columnKeeps", apart := false }
def ColumnKeepsSaid : Prop := columnKeepsRow.holds Try.pinned (OpenSpec.ofChange columnKeepsSpec)

/-- ITS FALSE NEIGHBOUR: 'it returns false'. Refute it at one input. -/
def columnKeepsWrong : ChangeSpec := { name := "columnKeeps", fn := fun _ => fun
  | [d1, d2] => { results := [.lit (.bool false)], args := [d1, d2] }
  | _ => none }
def ColumnKeepsWrongFalsely : Prop := columnKeepsRow.holds Try.pinned (OpenSpec.ofChange columnKeepsWrong)

/-- 'retrofitlaw06.ColumnApart': WHATEVER THE INPUT: true; the input reads as it did. -/
def columnApartSpec : ChangeSpec := { name := "columnApart", fn := fun _ => fun
  | [d1, d2, d3] => { results := [.lit (.bool true)], args := [d1, d2, d3] }
  | _ => none }
def columnApartRow : OpenClaim := { program := "ytcdmegaebcjnlaa", sum := "1aeedca89d8495daf58dc618c6b0d82094bce8f04450d17c7e91c4614a1922f6", func := "retrofit/retrofitlaw06.ColumnApart", spec := "columnApart", apart := false }
def ColumnApartSaid : Prop := columnApartRow.holds Try.pinned (OpenSpec.ofChange columnApartSpec)

/-- ITS FALSE NEIGHBOUR: 'it returns false'. Refute it at one input. -/
def columnApartWrong : ChangeSpec := { name := "columnApart", fn := fun _ => fun
  | [d1, d2, d3] => { results := [.lit (.bool false)], args := [d1, d2, d3] }
  | _ => none }
def ColumnApartWrongFalsely : Prop := columnApartRow.holds Try.pinned (OpenSpec.ofChange columnApartWrong)

/-- 'retrofitlaw06.ColumnExact': WHATEVER THE INPUT: true; the input reads as it did. -/
def columnExactSpec : ChangeSpec := { name := "columnExact", fn := fun _ => fun
  | [d1, d2, d3] => { results := [.lit (.bool true)], args := [d1, d2, d3] }
  | _ => none }
def columnExactRow : OpenClaim := { program := "ytcdmegaebcjnlaa", sum := "1aeedca89d8495daf58dc618c6b0d82094bce8f04450d17c7e91c4614a1922f6", func := "retrofit/retrofitlaw06.ColumnExact", spec := "columnExact", apart := false }
def ColumnExactSaid : Prop := columnExactRow.holds Try.pinned (OpenSpec.ofChange columnExactSpec)

/-- ITS FALSE NEIGHBOUR: 'it returns false'. Refute it at one input. -/
def columnExactWrong : ChangeSpec := { name := "columnExact", fn := fun _ => fun
  | [d1, d2, d3] => { results := [.lit (.bool false)], args := [d1, d2, d3] }
  | _ => none }
def ColumnExactWrongFalsely : Prop := columnExactRow.holds Try.pinned (OpenSpec.ofChange columnExactWrong)

/- THE SECOND FORM. 'bulk': how many values and letters a reading holds, each counted each time it is reached (what is shared counts as often as it is met; a slice's spare places count too). A statement '..UptoSaid' is the law's where the arguments, and the package variables that the reading takes, are together of bulk at most 1048576: NARROWER than '..Said'. Prove '..Said' where nothing that the law and all that it calls make is longer than what came in: it says more and counts as full. Else prove '..UptoSaid'. A law counts once. -/
mutual
def uptoBulk {H : Type} : DataW H → Nat
  | .lit (.string bytes) => bytes.length + 1
  | .lit _ => 1
  | .nil => 1
  | .ptr d => uptoBulk d + 1
  | .slice elems spare => uptoBulkAll elems + uptoBulkAll spare + 1
  | .agg parts => uptoBulkAll parts + 1
  | .iface _ d => uptoBulk d + 1
  | .map entries => uptoBulkEntries entries + 1
  | .held _ => 1
def uptoBulkAll {H : Type} : List (DataW H) → Nat
  | [] => 0
  | d :: r => uptoBulk d + uptoBulkAll r
def uptoBulkEntries {H : Type} : List (Lit × DataW H) → Nat
  | [] => 0
  | x :: r => uptoBulkEntry x + uptoBulkEntries r
def uptoBulkEntry {H : Type} : Lit × DataW H → Nat
  | (.string bytes, d) => bytes.length + uptoBulk d + 1
  | (_, d) => uptoBulk d + 1
 end
def uptoSmall : (H : Type) → List (DataW H) → Bool := fun _ ds => decide (uptoBulkAll ds ≤ 1048576)
def OpenSpec.upto (s : _root_.Go.ChangeSpec) : _root_.Go.OpenSpec := { _root_.Go.OpenSpec.ofChange s with cond := some uptoSmall }

/-- 'retrofitlaw06.ColumnKeeps', WHERE WHAT IT READS IS OF BULK AT MOST 1048576: true; the input reads as it did. -/
def columnKeepsUptoRow : OpenClaim := { program := "ytcdmegaebcjnlaa", sum := "1aeedca89d8495daf58dc618c6b0d82094bce8f04450d17c7e91c4614a1922f6", func := "retrofit/retrofitlaw06.ColumnKeeps", spec := "columnKeeps", apart := false, narrowed := true }
def ColumnKeepsUptoSaid : Prop := columnKeepsUptoRow.holds Try.pinned (OpenSpec.upto columnKeepsSpec)

/-- 'retrofitlaw06.ColumnApart', WHERE WHAT IT READS IS OF BULK AT MOST 1048576: true; the input reads as it did. -/
def columnApartUptoRow : OpenClaim := { program := "ytcdmegaebcjnlaa", sum := "1aeedca89d8495daf58dc618c6b0d82094bce8f04450d17c7e91c4614a1922f6", func := "retrofit/retrofitlaw06.ColumnApart", spec := "columnApart", apart := false, narrowed := true }
def ColumnApartUptoSaid : Prop := columnApartUptoRow.holds Try.pinned (OpenSpec.upto columnApartSpec)

/-- 'retrofitlaw06.ColumnExact', WHERE WHAT IT READS IS OF BULK AT MOST 1048576: true; the input reads as it did. -/
def columnExactUptoRow : OpenClaim := { program := "ytcdmegaebcjnlaa", sum := "1aeedca89d8495daf58dc618c6b0d82094bce8f04450d17c7e91c4614a1922f6", func := "retrofit/retrofitlaw06.ColumnExact", spec := "columnExact", apart := false, narrowed := true }
def ColumnExactUptoSaid : Prop := columnExactUptoRow.holds Try.pinned (OpenSpec.upto columnExactSpec)

end Rows
end Go.Proofs.Ytcdmegaebcjnlaa
