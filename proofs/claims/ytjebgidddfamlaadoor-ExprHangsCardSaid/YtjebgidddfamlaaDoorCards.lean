/-
  DERIVED. GIVEN WITH THE SEED: THE CARDS: each row of YtjebgidddfamlaaDoorRows.lean that lists a variable, with what it lists TIED to the program's text (the seventh form; the later family's looks); each row that meets fmt, with fmt's text TOLD by the authors' own Lean function (tested against real Go, not proved from fmt's source: count such statements apart). THE CARD IS WHAT COUNTS. Prove the row's statement (the work); the ties are given (YtjebgidddfamlaaDoorTie.lean); close each card by the builder's one call (the guide's Derived/Test/ToyasCard.lean, 'card_holds'). Laid BY PROGRAM, IN A SANDBOX (cutbox-door.mjs). By AI agents, Wed Nov 11 2026. No macro, syntax, notation, axiom, sorry.
-/
import Derived.Test.YtjebgidddfamlaaDoorRows
import GoSem.ClaimSeven
namespace Go.Proofs.YtjebgidddfamlaaDoor
namespace Rows

/-- THE TIED CARD OF 'retrofitlaw11.ExprBack'. -/
def exprBackCard : Claim7 := { stood := { row := exprBackRow, standIns := [], harness := (true, "0de48ba987ba187f1b149109de5eeea12eaa819522894a0d3571656db895004f"), looks := false }, kinds := [], alts := [], laidByText := true, laidKinds := [.data, .data, .data], laidTests := true, laidLooks := .later }
def ExprBackCardSaid : Prop := Claim7.holds Tryd.pinned (.plain (OpenSpec.ofChange exprBackSpec)) exprBackCard

/-- THE TIED CARD OF 'retrofitlaw11.ExprHangs'. -/
def exprHangsCard : Claim7 := { stood := { row := exprHangsRow, standIns := [], harness := (true, "0de48ba987ba187f1b149109de5eeea12eaa819522894a0d3571656db895004f"), looks := false }, kinds := [], alts := [], laidByText := true, laidKinds := [.data, .data, .data], laidTests := true, laidLooks := .later }
def ExprHangsCardSaid : Prop := Claim7.holds Tryd.pinned (.plain (OpenSpec.ofChange exprHangsSpec)) exprHangsCard

/-- THE TIED CARD OF 'retrofitlaw11.ExprJoins'. -/
def exprJoinsCard : Claim7 := { stood := { row := exprJoinsRow, standIns := [], harness := (true, "0de48ba987ba187f1b149109de5eeea12eaa819522894a0d3571656db895004f"), looks := false }, kinds := [], alts := [], laidByText := true, laidKinds := [.data, .data, .data], laidTests := true, laidLooks := .later }
def ExprJoinsCardSaid : Prop := Claim7.holds Tryd.pinned (.plain (OpenSpec.ofChange exprJoinsSpec)) exprJoinsCard

/-- THE SECOND FORM's CARD OF 'retrofitlaw11.ExprBack'. -/
def exprBackUptoCard : Claim7 := { stood := { row := exprBackUptoRow, standIns := [], harness := (true, "0de48ba987ba187f1b149109de5eeea12eaa819522894a0d3571656db895004f"), looks := false }, kinds := [], alts := [], laidByText := true, laidKinds := [.data, .data, .data], laidTests := true, laidLooks := .later }
def ExprBackUptoCardSaid : Prop := Claim7.holds Tryd.pinned (.plain (OpenSpec.upto exprBackSpec)) exprBackUptoCard

/-- THE SECOND FORM's CARD OF 'retrofitlaw11.ExprHangs'. -/
def exprHangsUptoCard : Claim7 := { stood := { row := exprHangsUptoRow, standIns := [], harness := (true, "0de48ba987ba187f1b149109de5eeea12eaa819522894a0d3571656db895004f"), looks := false }, kinds := [], alts := [], laidByText := true, laidKinds := [.data, .data, .data], laidTests := true, laidLooks := .later }
def ExprHangsUptoCardSaid : Prop := Claim7.holds Tryd.pinned (.plain (OpenSpec.upto exprHangsSpec)) exprHangsUptoCard

/-- THE SECOND FORM's CARD OF 'retrofitlaw11.ExprJoins'. -/
def exprJoinsUptoCard : Claim7 := { stood := { row := exprJoinsUptoRow, standIns := [], harness := (true, "0de48ba987ba187f1b149109de5eeea12eaa819522894a0d3571656db895004f"), looks := false }, kinds := [], alts := [], laidByText := true, laidKinds := [.data, .data, .data], laidTests := true, laidLooks := .later }
def ExprJoinsUptoCardSaid : Prop := Claim7.holds Tryd.pinned (.plain (OpenSpec.upto exprJoinsSpec)) exprJoinsUptoCard
end Rows
end Go.Proofs.YtjebgidddfamlaaDoor
