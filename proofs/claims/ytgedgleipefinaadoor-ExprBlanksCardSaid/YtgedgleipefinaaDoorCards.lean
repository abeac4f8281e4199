/-
  DERIVED. GIVEN WITH THE SEED: THE CARDS: each row of YtgedgleipefinaaDoorRows.lean that lists a variable, with what it lists TIED to the program's text (the seventh form; the later family's looks); each row that meets fmt, with fmt's text TOLD by the authors' own Lean function (tested against real Go, not proved from fmt's source: count such statements apart). THE CARD IS WHAT COUNTS. Prove the row's statement (the work); the ties are given (YtgedgleipefinaaDoorTie.lean); close each card by the builder's one call (the guide's Derived/Test/ToyasCard.lean, 'card_holds'). Laid BY PROGRAM, IN A SANDBOX (cutbox-door.mjs). By AI agents, Wed Nov 11 2026. No macro, syntax, notation, axiom, sorry.
-/
import Derived.Test.YtgedgleipefinaaDoorRows
import GoSem.ClaimSeven
namespace Go.Proofs.YtgedgleipefinaaDoor
namespace Rows

/-- THE TIED CARD OF 'magnetolaw20.ExprParses'. -/
def exprParsesCard : Claim7 := { stood := { row := exprParsesRow, standIns := [], harness := (true, "6d02501e6899d6f81755b9cff425ea1a8eb80059ea4f41de3ae62ba578c48976"), looks := true }, kinds := [], alts := [], laidByText := true, laidKinds := [.data, .data, .data, .sentinel, .sentinel], laidTests := true, laidLooks := .later }
def ExprParsesCardSaid : Prop := Claim7.holds Tryd.pinned (.plain (OpenSpec.ofChange exprParsesSpec)) exprParsesCard

/-- THE TIED CARD OF 'magnetolaw20.ExprChecks'. -/
def exprChecksCard : Claim7 := { stood := { row := exprChecksRow, standIns := [], harness := (true, "6d02501e6899d6f81755b9cff425ea1a8eb80059ea4f41de3ae62ba578c48976"), looks := true }, kinds := [], alts := [], laidByText := true, laidKinds := [.data, .data, .data, .sentinel, .sentinel], laidTests := true, laidLooks := .later }
def ExprChecksCardSaid : Prop := Claim7.holds Tryd.pinned (.plain (OpenSpec.ofChange exprChecksSpec)) exprChecksCard

/-- THE TIED CARD OF 'magnetolaw20.ExprBack'. -/
def exprBackCard : Claim7 := { stood := { row := exprBackRow, standIns := [], harness := (true, "6d02501e6899d6f81755b9cff425ea1a8eb80059ea4f41de3ae62ba578c48976"), looks := true }, kinds := [], alts := [], laidByText := true, laidKinds := [.data, .data, .data, .sentinel, .sentinel], laidTests := true, laidLooks := .later }
def ExprBackCardSaid : Prop := Claim7.holds Tryd.pinned (.plain (OpenSpec.ofChange exprBackSpec)) exprBackCard

/-- THE TIED CARD OF 'magnetolaw20.ExprBlanks'. -/
def exprBlanksCard : Claim7 := { stood := { row := exprBlanksRow, standIns := [], harness := (true, "6d02501e6899d6f81755b9cff425ea1a8eb80059ea4f41de3ae62ba578c48976"), looks := true }, kinds := [], alts := [], laidByText := true, laidKinds := [.data, .data, .data, .sentinel, .sentinel], laidTests := true, laidLooks := .later }
def ExprBlanksCardSaid : Prop := Claim7.holds Tryd.pinned (.plain (OpenSpec.ofChange exprBlanksSpec)) exprBlanksCard

/-- THE TIED CARD OF 'magnetolaw20.ExprBinds'. -/
def exprBindsCard : Claim7 := { stood := { row := exprBindsRow, standIns := [], harness := (true, "6d02501e6899d6f81755b9cff425ea1a8eb80059ea4f41de3ae62ba578c48976"), looks := true }, kinds := [], alts := [], laidByText := true, laidKinds := [.data, .data, .data, .sentinel, .sentinel], laidTests := true, laidLooks := .later }
def ExprBindsCardSaid : Prop := Claim7.holds Tryd.pinned (.plain (OpenSpec.ofChange exprBindsSpec)) exprBindsCard

/-- THE TIED CARD OF 'magnetolaw20.ExprDeep'. -/
def exprDeepCard : Claim7 := { stood := { row := exprDeepRow, standIns := [], harness := (true, "6d02501e6899d6f81755b9cff425ea1a8eb80059ea4f41de3ae62ba578c48976"), looks := true }, kinds := [], alts := [], laidByText := true, laidKinds := [.data, .data, .data, .sentinel, .sentinel], laidTests := true, laidLooks := .later }
def ExprDeepCardSaid : Prop := Claim7.holds Tryd.pinned (.plain (OpenSpec.ofChange exprDeepSpec)) exprDeepCard

/-- THE SECOND FORM's CARD OF 'magnetolaw20.ExprParses'. -/
def exprParsesUptoCard : Claim7 := { stood := { row := exprParsesUptoRow, standIns := [], harness := (true, "6d02501e6899d6f81755b9cff425ea1a8eb80059ea4f41de3ae62ba578c48976"), looks := true }, kinds := [], alts := [], laidByText := true, laidKinds := [.data, .data, .data, .sentinel, .sentinel], laidTests := true, laidLooks := .later }
def ExprParsesUptoCardSaid : Prop := Claim7.holds Tryd.pinned (.plain (OpenSpec.upto exprParsesSpec)) exprParsesUptoCard

/-- THE SECOND FORM's CARD OF 'magnetolaw20.ExprChecks'. -/
def exprChecksUptoCard : Claim7 := { stood := { row := exprChecksUptoRow, standIns := [], harness := (true, "6d02501e6899d6f81755b9cff425ea1a8eb80059ea4f41de3ae62ba578c48976"), looks := true }, kinds := [], alts := [], laidByText := true, laidKinds := [.data, .data, .data, .sentinel, .sentinel], laidTests := true, laidLooks := .later }
def ExprChecksUptoCardSaid : Prop := Claim7.holds Tryd.pinned (.plain (OpenSpec.upto exprChecksSpec)) exprChecksUptoCard

/-- THE SECOND FORM's CARD OF 'magnetolaw20.ExprBack'. -/
def exprBackUptoCard : Claim7 := { stood := { row := exprBackUptoRow, standIns := [], harness := (true, "6d02501e6899d6f81755b9cff425ea1a8eb80059ea4f41de3ae62ba578c48976"), looks := true }, kinds := [], alts := [], laidByText := true, laidKinds := [.data, .data, .data, .sentinel, .sentinel], laidTests := true, laidLooks := .later }
def ExprBackUptoCardSaid : Prop := Claim7.holds Tryd.pinned (.plain (OpenSpec.upto exprBackSpec)) exprBackUptoCard

/-- THE SECOND FORM's CARD OF 'magnetolaw20.ExprBlanks'. -/
def exprBlanksUptoCard : Claim7 := { stood := { row := exprBlanksUptoRow, standIns := [], harness := (true, "6d02501e6899d6f81755b9cff425ea1a8eb80059ea4f41de3ae62ba578c48976"), looks := true }, kinds := [], alts := [], laidByText := true, laidKinds := [.data, .data, .data, .sentinel, .sentinel], laidTests := true, laidLooks := .later }
def ExprBlanksUptoCardSaid : Prop := Claim7.holds Tryd.pinned (.plain (OpenSpec.upto exprBlanksSpec)) exprBlanksUptoCard

/-- THE SECOND FORM's CARD OF 'magnetolaw20.ExprBinds'. -/
def exprBindsUptoCard : Claim7 := { stood := { row := exprBindsUptoRow, standIns := [], harness := (true, "6d02501e6899d6f81755b9cff425ea1a8eb80059ea4f41de3ae62ba578c48976"), looks := true }, kinds := [], alts := [], laidByText := true, laidKinds := [.data, .data, .data, .sentinel, .sentinel], laidTests := true, laidLooks := .later }
def ExprBindsUptoCardSaid : Prop := Claim7.holds Tryd.pinned (.plain (OpenSpec.upto exprBindsSpec)) exprBindsUptoCard

/-- THE SECOND FORM's CARD OF 'magnetolaw20.ExprDeep'. -/
def exprDeepUptoCard : Claim7 := { stood := { row := exprDeepUptoRow, standIns := [], harness := (true, "6d02501e6899d6f81755b9cff425ea1a8eb80059ea4f41de3ae62ba578c48976"), looks := true }, kinds := [], alts := [], laidByText := true, laidKinds := [.data, .data, .data, .sentinel, .sentinel], laidTests := true, laidLooks := .later }
def ExprDeepUptoCardSaid : Prop := Claim7.holds Tryd.pinned (.plain (OpenSpec.upto exprDeepSpec)) exprDeepUptoCard
end Rows
end Go.Proofs.YtgedgleipefinaaDoor
