/-
  DERIVED. GIVEN WITH THE SEED: THE CARDS: each row of YtlhdofkgcbmnnaaGreatDoorRows.lean that lists a variable, with what it lists TIED to the program's text (the seventh form; the later family's looks); each row that meets fmt, with fmt's text TOLD by the authors' own Lean function (tested against real Go, not proved from fmt's source: count such statements apart). THE CARD IS WHAT COUNTS. Prove the row's statement (the work); the ties are given (YtlhdofkgcbmnnaaGreatDoorTie.lean); close each card by the builder's one call (the guide's Derived/Test/ToyasCard.lean, 'card_holds'). Laid BY PROGRAM, IN A SANDBOX (cutbox-door.mjs). By AI agents, Wed Nov 11 2026. No macro, syntax, notation, axiom, sorry.
-/
import Derived.Test.YtlhdofkgcbmnnaaGreatDoorRows
import GoSem.ClaimSeven
namespace Go.Proofs.YtlhdofkgcbmnnaaGreatDoor
namespace Rows

/-- THE TIED CARD OF 'retrofitlaw12.RuleExact'. -/
def ruleExactCard : Claim7 := { stood := { row := ruleExactRow, standIns := [], harness := (true, "5cddc9f23120753ca4408c4bccf538be74c2699e71e7f14e7080c9fbb60c32e4"), looks := false }, kinds := [], alts := [], laidByText := true, laidKinds := [.data, .data, .data], laidTests := true, laidLooks := .later }
def RuleExactCardSaid : Prop := Claim7.holds Tryz.pinned (.plain (OpenSpec.ofChange ruleExactSpec)) ruleExactCard

/-- THE TIED CARD OF 'retrofitlaw12.RuleFinds'. -/
def ruleFindsCard : Claim7 := { stood := { row := ruleFindsRow, standIns := [], harness := (true, "5cddc9f23120753ca4408c4bccf538be74c2699e71e7f14e7080c9fbb60c32e4"), looks := false }, kinds := [], alts := [], laidByText := true, laidKinds := [.data, .data, .data], laidTests := true, laidLooks := .later }
def RuleFindsCardSaid : Prop := Claim7.holds Tryz.pinned (.plain (OpenSpec.ofChange ruleFindsSpec)) ruleFindsCard

/-- THE TIED CARD OF 'retrofitlaw12.RuleBack'. -/
def ruleBackCard : Claim7 := { stood := { row := ruleBackRow, standIns := [], harness := (true, "5cddc9f23120753ca4408c4bccf538be74c2699e71e7f14e7080c9fbb60c32e4"), looks := false }, kinds := [], alts := [], laidByText := true, laidKinds := [.data, .data, .data], laidTests := true, laidLooks := .later }
def RuleBackCardSaid : Prop := Claim7.holds Tryz.pinned (.plain (OpenSpec.ofChange ruleBackSpec)) ruleBackCard

/-- THE TIED CARD OF 'retrofitlaw12.RuleMade'. -/
def ruleMadeCard : Claim7 := { stood := { row := ruleMadeRow, standIns := [], harness := (true, "5cddc9f23120753ca4408c4bccf538be74c2699e71e7f14e7080c9fbb60c32e4"), looks := false }, kinds := [], alts := [], laidByText := true, laidKinds := [.data, .data, .data], laidTests := true, laidLooks := .later }
def RuleMadeCardSaid : Prop := Claim7.holds Tryz.pinned (.plain (OpenSpec.ofChange ruleMadeSpec)) ruleMadeCard

/-- THE SECOND FORM's CARD OF 'retrofitlaw12.RuleExact'. -/
def ruleExactUptoCard : Claim7 := { stood := { row := ruleExactUptoRow, standIns := [], harness := (true, "5cddc9f23120753ca4408c4bccf538be74c2699e71e7f14e7080c9fbb60c32e4"), looks := false }, kinds := [], alts := [], laidByText := true, laidKinds := [.data, .data, .data], laidTests := true, laidLooks := .later }
def RuleExactUptoCardSaid : Prop := Claim7.holds Tryz.pinned (.plain (OpenSpec.upto ruleExactSpec)) ruleExactUptoCard

/-- THE SECOND FORM's CARD OF 'retrofitlaw12.RuleFinds'. -/
def ruleFindsUptoCard : Claim7 := { stood := { row := ruleFindsUptoRow, standIns := [], harness := (true, "5cddc9f23120753ca4408c4bccf538be74c2699e71e7f14e7080c9fbb60c32e4"), looks := false }, kinds := [], alts := [], laidByText := true, laidKinds := [.data, .data, .data], laidTests := true, laidLooks := .later }
def RuleFindsUptoCardSaid : Prop := Claim7.holds Tryz.pinned (.plain (OpenSpec.upto ruleFindsSpec)) ruleFindsUptoCard

/-- THE SECOND FORM's CARD OF 'retrofitlaw12.RuleBack'. -/
def ruleBackUptoCard : Claim7 := { stood := { row := ruleBackUptoRow, standIns := [], harness := (true, "5cddc9f23120753ca4408c4bccf538be74c2699e71e7f14e7080c9fbb60c32e4"), looks := false }, kinds := [], alts := [], laidByText := true, laidKinds := [.data, .data, .data], laidTests := true, laidLooks := .later }
def RuleBackUptoCardSaid : Prop := Claim7.holds Tryz.pinned (.plain (OpenSpec.upto ruleBackSpec)) ruleBackUptoCard

/-- THE SECOND FORM's CARD OF 'retrofitlaw12.RuleMade'. -/
def ruleMadeUptoCard : Claim7 := { stood := { row := ruleMadeUptoRow, standIns := [], harness := (true, "5cddc9f23120753ca4408c4bccf538be74c2699e71e7f14e7080c9fbb60c32e4"), looks := false }, kinds := [], alts := [], laidByText := true, laidKinds := [.data, .data, .data], laidTests := true, laidLooks := .later }
def RuleMadeUptoCardSaid : Prop := Claim7.holds Tryz.pinned (.plain (OpenSpec.upto ruleMadeSpec)) ruleMadeUptoCard
end Rows
end Go.Proofs.YtlhdofkgcbmnnaaGreatDoor
