/-
  DERIVED. GIVEN WITH THE SEED: THE CARDS: each row of YtdekdefjfaoclaaDoorRows.lean that lists a variable, with what it lists TIED to the program's text (the seventh form; the later family's looks); each row that meets fmt, with fmt's text TOLD by the authors' own Lean function (tested against real Go, not proved from fmt's source: count such statements apart). THE CARD IS WHAT COUNTS. Prove the row's statement (the work); the ties are given (YtdekdefjfaoclaaDoorTie.lean); close each card by the builder's one call (the guide's Derived/Test/ToyasCard.lean, 'card_holds'). Laid BY PROGRAM, IN A SANDBOX (cutbox-door.mjs). By AI agents, Wed Nov 11 2026. No macro, syntax, notation, axiom, sorry.
-/
import Derived.Test.YtdekdefjfaoclaaDoorRows
import GoSem.ClaimSeven
namespace Go.Proofs.YtdekdefjfaoclaaDoor
namespace Rows

/-- THE TIED CARD OF 'retrofitlaw09.DiffExact'. -/
def diffExactCard : Claim7 := { stood := { row := diffExactRow, standIns := [], harness := (true, "078cf4f967491b87c86bc15a8b1921ea75663d88ca864d263bb7583b11923b8e"), looks := false }, kinds := [], alts := [], laidByText := true, laidKinds := [.data, .data, .data], laidTests := true, laidLooks := .later }
def DiffExactCardSaid : Prop := Claim7.holds Tryd.pinned (.plain (OpenSpec.ofChange diffExactSpec)) diffExactCard

/-- THE TIED CARD OF 'retrofitlaw09.DiffLines'. -/
def diffLinesCard : Claim7 := { stood := { row := diffLinesRow, standIns := [], harness := (true, "078cf4f967491b87c86bc15a8b1921ea75663d88ca864d263bb7583b11923b8e"), looks := false }, kinds := [], alts := [], laidByText := true, laidKinds := [.data, .data, .data], laidTests := true, laidLooks := .later }
def DiffLinesCardSaid : Prop := Claim7.holds Tryd.pinned (.plain (OpenSpec.ofChange diffLinesSpec)) diffLinesCard

/-- THE TIED CARD OF 'retrofitlaw09.DiffKept'. -/
def diffKeptCard : Claim7 := { stood := { row := diffKeptRow, standIns := [], harness := (true, "078cf4f967491b87c86bc15a8b1921ea75663d88ca864d263bb7583b11923b8e"), looks := false }, kinds := [], alts := [], laidByText := true, laidKinds := [.data, .data, .data], laidTests := true, laidLooks := .later }
def DiffKeptCardSaid : Prop := Claim7.holds Tryd.pinned (.plain (OpenSpec.ofChange diffKeptSpec)) diffKeptCard

/-- THE TIED CARD OF 'retrofitlaw09.DiffSame'. -/
def diffSameCard : Claim7 := { stood := { row := diffSameRow, standIns := [], harness := (true, "078cf4f967491b87c86bc15a8b1921ea75663d88ca864d263bb7583b11923b8e"), looks := false }, kinds := [], alts := [], laidByText := true, laidKinds := [.data, .data, .data], laidTests := true, laidLooks := .later }
def DiffSameCardSaid : Prop := Claim7.holds Tryd.pinned (.plain (OpenSpec.ofChange diffSameSpec)) diffSameCard

/-- THE SECOND FORM's CARD OF 'retrofitlaw09.DiffExact'. -/
def diffExactUptoCard : Claim7 := { stood := { row := diffExactUptoRow, standIns := [], harness := (true, "078cf4f967491b87c86bc15a8b1921ea75663d88ca864d263bb7583b11923b8e"), looks := false }, kinds := [], alts := [], laidByText := true, laidKinds := [.data, .data, .data], laidTests := true, laidLooks := .later }
def DiffExactUptoCardSaid : Prop := Claim7.holds Tryd.pinned (.plain (OpenSpec.upto diffExactSpec)) diffExactUptoCard

/-- THE SECOND FORM's CARD OF 'retrofitlaw09.DiffLines'. -/
def diffLinesUptoCard : Claim7 := { stood := { row := diffLinesUptoRow, standIns := [], harness := (true, "078cf4f967491b87c86bc15a8b1921ea75663d88ca864d263bb7583b11923b8e"), looks := false }, kinds := [], alts := [], laidByText := true, laidKinds := [.data, .data, .data], laidTests := true, laidLooks := .later }
def DiffLinesUptoCardSaid : Prop := Claim7.holds Tryd.pinned (.plain (OpenSpec.upto diffLinesSpec)) diffLinesUptoCard

/-- THE SECOND FORM's CARD OF 'retrofitlaw09.DiffKept'. -/
def diffKeptUptoCard : Claim7 := { stood := { row := diffKeptUptoRow, standIns := [], harness := (true, "078cf4f967491b87c86bc15a8b1921ea75663d88ca864d263bb7583b11923b8e"), looks := false }, kinds := [], alts := [], laidByText := true, laidKinds := [.data, .data, .data], laidTests := true, laidLooks := .later }
def DiffKeptUptoCardSaid : Prop := Claim7.holds Tryd.pinned (.plain (OpenSpec.upto diffKeptSpec)) diffKeptUptoCard

/-- THE SECOND FORM's CARD OF 'retrofitlaw09.DiffSame'. -/
def diffSameUptoCard : Claim7 := { stood := { row := diffSameUptoRow, standIns := [], harness := (true, "078cf4f967491b87c86bc15a8b1921ea75663d88ca864d263bb7583b11923b8e"), looks := false }, kinds := [], alts := [], laidByText := true, laidKinds := [.data, .data, .data], laidTests := true, laidLooks := .later }
def DiffSameUptoCardSaid : Prop := Claim7.holds Tryd.pinned (.plain (OpenSpec.upto diffSameSpec)) diffSameUptoCard
end Rows
end Go.Proofs.YtdekdefjfaoclaaDoor
