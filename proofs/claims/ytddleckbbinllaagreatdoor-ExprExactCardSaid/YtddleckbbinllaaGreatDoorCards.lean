/-
  DERIVED. GIVEN WITH THE SEED: THE CARDS: each row of YtddleckbbinllaaGreatDoorRows.lean that lists a variable, with what it lists TIED to the program's text (the seventh form; the later family's looks); each row that meets fmt, with fmt's text TOLD by the authors' own Lean function (tested against real Go, not proved from fmt's source: count such statements apart). THE CARD IS WHAT COUNTS. Prove the row's statement (the work); the ties are given (YtddleckbbinllaaGreatDoorTie.lean); close each card by the builder's one call (the guide's Derived/Test/ToyasCard.lean, 'card_holds'). Laid BY PROGRAM, IN A SANDBOX (cutbox-door.mjs). By AI agents, Wed Nov 11 2026. No macro, syntax, notation, axiom, sorry.
-/
import Derived.Test.YtddleckbbinllaaGreatDoorRows
import GoSem.ClaimSeven
namespace Go.Proofs.YtddleckbbinllaaGreatDoor
namespace Rows

/-- THE TIED CARD OF 'retrofitlaw11.ExprExact'. -/
def exprExactCard : Claim7 := { stood := { row := exprExactRow, standIns := [], harness := (true, "58a65bebb52e2abafd1a78222c19d4088d2f4372275bcfa40e3ff19172ddf424"), looks := false }, kinds := [], alts := [], laidByText := true, laidKinds := [.data, .data, .data], laidTests := true, laidLooks := .later }
def ExprExactCardSaid : Prop := Claim7.holds Tryz.pinned (.plain (OpenSpec.ofChange exprExactSpec)) exprExactCard

/-- THE TIED CARD OF 'retrofitlaw11.ExprBytes'. -/
def exprBytesCard : Claim7 := { stood := { row := exprBytesRow, standIns := [], harness := (true, "58a65bebb52e2abafd1a78222c19d4088d2f4372275bcfa40e3ff19172ddf424"), looks := false }, kinds := [], alts := [], laidByText := true, laidKinds := [.data, .data, .data], laidTests := true, laidLooks := .later }
def ExprBytesCardSaid : Prop := Claim7.holds Tryz.pinned (.plain (OpenSpec.ofChange exprBytesSpec)) exprBytesCard

/-- THE TIED CARD OF 'retrofitlaw12.RuleExact'. -/
def ruleExactCard : Claim7 := { stood := { row := ruleExactRow, standIns := [], harness := (true, "58a65bebb52e2abafd1a78222c19d4088d2f4372275bcfa40e3ff19172ddf424"), looks := false }, kinds := [], alts := [], laidByText := true, laidKinds := [.data, .data, .data], laidTests := true, laidLooks := .later }
def RuleExactCardSaid : Prop := Claim7.holds Tryz.pinned (.plain (OpenSpec.ofChange ruleExactSpec)) ruleExactCard

/-- THE TIED CARD OF 'retrofitlaw12.RuleFinds'. -/
def ruleFindsCard : Claim7 := { stood := { row := ruleFindsRow, standIns := [], harness := (true, "58a65bebb52e2abafd1a78222c19d4088d2f4372275bcfa40e3ff19172ddf424"), looks := false }, kinds := [], alts := [], laidByText := true, laidKinds := [.data, .data, .data], laidTests := true, laidLooks := .later }
def RuleFindsCardSaid : Prop := Claim7.holds Tryz.pinned (.plain (OpenSpec.ofChange ruleFindsSpec)) ruleFindsCard

/-- THE TIED CARD OF 'retrofitlaw12.RuleBack'. -/
def ruleBackCard : Claim7 := { stood := { row := ruleBackRow, standIns := [], harness := (true, "58a65bebb52e2abafd1a78222c19d4088d2f4372275bcfa40e3ff19172ddf424"), looks := false }, kinds := [], alts := [], laidByText := true, laidKinds := [.data, .data, .data], laidTests := true, laidLooks := .later }
def RuleBackCardSaid : Prop := Claim7.holds Tryz.pinned (.plain (OpenSpec.ofChange ruleBackSpec)) ruleBackCard

/-- THE TIED CARD OF 'retrofitlaw12.RuleMade'. -/
def ruleMadeCard : Claim7 := { stood := { row := ruleMadeRow, standIns := [], harness := (true, "58a65bebb52e2abafd1a78222c19d4088d2f4372275bcfa40e3ff19172ddf424"), looks := false }, kinds := [], alts := [], laidByText := true, laidKinds := [.data, .data, .data], laidTests := true, laidLooks := .later }
def RuleMadeCardSaid : Prop := Claim7.holds Tryz.pinned (.plain (OpenSpec.ofChange ruleMadeSpec)) ruleMadeCard

/-- THE SECOND FORM's CARD OF 'retrofitlaw11.ExprExact'. -/
def exprExactUptoCard : Claim7 := { stood := { row := exprExactUptoRow, standIns := [], harness := (true, "58a65bebb52e2abafd1a78222c19d4088d2f4372275bcfa40e3ff19172ddf424"), looks := false }, kinds := [], alts := [], laidByText := true, laidKinds := [.data, .data, .data], laidTests := true, laidLooks := .later }
def ExprExactUptoCardSaid : Prop := Claim7.holds Tryz.pinned (.plain (OpenSpec.upto exprExactSpec)) exprExactUptoCard

/-- THE SECOND FORM's CARD OF 'retrofitlaw11.ExprBytes'. -/
def exprBytesUptoCard : Claim7 := { stood := { row := exprBytesUptoRow, standIns := [], harness := (true, "58a65bebb52e2abafd1a78222c19d4088d2f4372275bcfa40e3ff19172ddf424"), looks := false }, kinds := [], alts := [], laidByText := true, laidKinds := [.data, .data, .data], laidTests := true, laidLooks := .later }
def ExprBytesUptoCardSaid : Prop := Claim7.holds Tryz.pinned (.plain (OpenSpec.upto exprBytesSpec)) exprBytesUptoCard

/-- THE SECOND FORM's CARD OF 'retrofitlaw12.RuleExact'. -/
def ruleExactUptoCard : Claim7 := { stood := { row := ruleExactUptoRow, standIns := [], harness := (true, "58a65bebb52e2abafd1a78222c19d4088d2f4372275bcfa40e3ff19172ddf424"), looks := false }, kinds := [], alts := [], laidByText := true, laidKinds := [.data, .data, .data], laidTests := true, laidLooks := .later }
def RuleExactUptoCardSaid : Prop := Claim7.holds Tryz.pinned (.plain (OpenSpec.upto ruleExactSpec)) ruleExactUptoCard

/-- THE SECOND FORM's CARD OF 'retrofitlaw12.RuleFinds'. -/
def ruleFindsUptoCard : Claim7 := { stood := { row := ruleFindsUptoRow, standIns := [], harness := (true, "58a65bebb52e2abafd1a78222c19d4088d2f4372275bcfa40e3ff19172ddf424"), looks := false }, kinds := [], alts := [], laidByText := true, laidKinds := [.data, .data, .data], laidTests := true, laidLooks := .later }
def RuleFindsUptoCardSaid : Prop := Claim7.holds Tryz.pinned (.plain (OpenSpec.upto ruleFindsSpec)) ruleFindsUptoCard

/-- THE SECOND FORM's CARD OF 'retrofitlaw12.RuleBack'. -/
def ruleBackUptoCard : Claim7 := { stood := { row := ruleBackUptoRow, standIns := [], harness := (true, "58a65bebb52e2abafd1a78222c19d4088d2f4372275bcfa40e3ff19172ddf424"), looks := false }, kinds := [], alts := [], laidByText := true, laidKinds := [.data, .data, .data], laidTests := true, laidLooks := .later }
def RuleBackUptoCardSaid : Prop := Claim7.holds Tryz.pinned (.plain (OpenSpec.upto ruleBackSpec)) ruleBackUptoCard

/-- THE SECOND FORM's CARD OF 'retrofitlaw12.RuleMade'. -/
def ruleMadeUptoCard : Claim7 := { stood := { row := ruleMadeUptoRow, standIns := [], harness := (true, "58a65bebb52e2abafd1a78222c19d4088d2f4372275bcfa40e3ff19172ddf424"), looks := false }, kinds := [], alts := [], laidByText := true, laidKinds := [.data, .data, .data], laidTests := true, laidLooks := .later }
def RuleMadeUptoCardSaid : Prop := Claim7.holds Tryz.pinned (.plain (OpenSpec.upto ruleMadeSpec)) ruleMadeUptoCard
end Rows
end Go.Proofs.YtddleckbbinllaaGreatDoor
