/-
  DERIVED. GIVEN WITH THE SEED: THE CARDS: each row of YteagkdmefmpokaaDoorRows.lean that lists a variable, with what it lists TIED to the program's text (the seventh form; the later family's looks); each row that meets fmt, with fmt's text TOLD by the authors' own Lean function (tested against real Go, not proved from fmt's source: count such statements apart). THE CARD IS WHAT COUNTS. Prove the row's statement (the work); the ties are given (YteagkdmefmpokaaDoorTie.lean); close each card by the builder's one call (the guide's Derived/Test/ToyasCard.lean, 'card_holds'). Laid BY PROGRAM, IN A SANDBOX (cutbox-door.mjs). By AI agents, Wed Nov 11 2026. No macro, syntax, notation, axiom, sorry.
-/
import Derived.Test.YteagkdmefmpokaaDoorRows
import GoSem.ClaimSeven
namespace Go.Proofs.YteagkdmefmpokaaDoor
namespace Rows

/-- THE TIED CARD OF 'brazierlaw08.CodeChecks'. -/
def codeChecksCard : Claim7 := { stood := { row := codeChecksRow, standIns := [], harness := (true, "5f1e793591192a463892d6f29d5c3e3956f021a4c5502e181d11cc0507c1847a"), looks := false }, kinds := [], alts := [], laidByText := true, laidKinds := [.data], laidTests := true, laidLooks := .later }
def CodeChecksCardSaid : Prop := Claim7.holds Tryd.pinned (.plain (OpenSpec.ofChange codeChecksSpec)) codeChecksCard

/-- THE TIED CARD OF 'brazierlaw08.CodeShapes'. -/
def codeShapesCard : Claim7 := { stood := { row := codeShapesRow, standIns := [], harness := (true, "5f1e793591192a463892d6f29d5c3e3956f021a4c5502e181d11cc0507c1847a"), looks := false }, kinds := [], alts := [], laidByText := true, laidKinds := [.data], laidTests := true, laidLooks := .later }
def CodeShapesCardSaid : Prop := Claim7.holds Tryd.pinned (.plain (OpenSpec.ofChange codeShapesSpec)) codeShapesCard

/-- THE TIED CARD OF 'brazierlaw08.CodeWithin'. -/
def codeWithinCard : Claim7 := { stood := { row := codeWithinRow, standIns := [], harness := (true, "5f1e793591192a463892d6f29d5c3e3956f021a4c5502e181d11cc0507c1847a"), looks := false }, kinds := [], alts := [], laidByText := true, laidKinds := [.data], laidTests := true, laidLooks := .later }
def CodeWithinCardSaid : Prop := Claim7.holds Tryd.pinned (.plain (OpenSpec.ofChange codeWithinSpec)) codeWithinCard

/-- THE TIED CARD OF 'brazierlaw08.CodeMore'. -/
def codeMoreCard : Claim7 := { stood := { row := codeMoreRow, standIns := [], harness := (true, "5f1e793591192a463892d6f29d5c3e3956f021a4c5502e181d11cc0507c1847a"), looks := false }, kinds := [], alts := [], laidByText := true, laidKinds := [.data], laidTests := true, laidLooks := .later }
def CodeMoreCardSaid : Prop := Claim7.holds Tryd.pinned (.plain (OpenSpec.ofChange codeMoreSpec)) codeMoreCard

/-- THE TIED CARD OF 'brazierlaw08.CodeNexts'. -/
def codeNextsCard : Claim7 := { stood := { row := codeNextsRow, standIns := [], harness := (true, "5f1e793591192a463892d6f29d5c3e3956f021a4c5502e181d11cc0507c1847a"), looks := false }, kinds := [], alts := [], laidByText := true, laidKinds := [.data], laidTests := true, laidLooks := .later }
def CodeNextsCardSaid : Prop := Claim7.holds Tryd.pinned (.plain (OpenSpec.ofChange codeNextsSpec)) codeNextsCard

/-- THE TIED CARD OF 'brazierlaw08.CodeCut'. -/
def codeCutCard : Claim7 := { stood := { row := codeCutRow, standIns := [], harness := (true, "5f1e793591192a463892d6f29d5c3e3956f021a4c5502e181d11cc0507c1847a"), looks := false }, kinds := [], alts := [], laidByText := true, laidKinds := [.data], laidTests := true, laidLooks := .later }
def CodeCutCardSaid : Prop := Claim7.holds Tryd.pinned (.plain (OpenSpec.ofChange codeCutSpec)) codeCutCard

/-- THE SECOND FORM's CARD OF 'brazierlaw08.CodeChecks'. -/
def codeChecksUptoCard : Claim7 := { stood := { row := codeChecksUptoRow, standIns := [], harness := (true, "5f1e793591192a463892d6f29d5c3e3956f021a4c5502e181d11cc0507c1847a"), looks := false }, kinds := [], alts := [], laidByText := true, laidKinds := [.data], laidTests := true, laidLooks := .later }
def CodeChecksUptoCardSaid : Prop := Claim7.holds Tryd.pinned (.plain (OpenSpec.upto codeChecksSpec)) codeChecksUptoCard

/-- THE SECOND FORM's CARD OF 'brazierlaw08.CodeShapes'. -/
def codeShapesUptoCard : Claim7 := { stood := { row := codeShapesUptoRow, standIns := [], harness := (true, "5f1e793591192a463892d6f29d5c3e3956f021a4c5502e181d11cc0507c1847a"), looks := false }, kinds := [], alts := [], laidByText := true, laidKinds := [.data], laidTests := true, laidLooks := .later }
def CodeShapesUptoCardSaid : Prop := Claim7.holds Tryd.pinned (.plain (OpenSpec.upto codeShapesSpec)) codeShapesUptoCard

/-- THE SECOND FORM's CARD OF 'brazierlaw08.CodeWithin'. -/
def codeWithinUptoCard : Claim7 := { stood := { row := codeWithinUptoRow, standIns := [], harness := (true, "5f1e793591192a463892d6f29d5c3e3956f021a4c5502e181d11cc0507c1847a"), looks := false }, kinds := [], alts := [], laidByText := true, laidKinds := [.data], laidTests := true, laidLooks := .later }
def CodeWithinUptoCardSaid : Prop := Claim7.holds Tryd.pinned (.plain (OpenSpec.upto codeWithinSpec)) codeWithinUptoCard

/-- THE SECOND FORM's CARD OF 'brazierlaw08.CodeMore'. -/
def codeMoreUptoCard : Claim7 := { stood := { row := codeMoreUptoRow, standIns := [], harness := (true, "5f1e793591192a463892d6f29d5c3e3956f021a4c5502e181d11cc0507c1847a"), looks := false }, kinds := [], alts := [], laidByText := true, laidKinds := [.data], laidTests := true, laidLooks := .later }
def CodeMoreUptoCardSaid : Prop := Claim7.holds Tryd.pinned (.plain (OpenSpec.upto codeMoreSpec)) codeMoreUptoCard

/-- THE SECOND FORM's CARD OF 'brazierlaw08.CodeNexts'. -/
def codeNextsUptoCard : Claim7 := { stood := { row := codeNextsUptoRow, standIns := [], harness := (true, "5f1e793591192a463892d6f29d5c3e3956f021a4c5502e181d11cc0507c1847a"), looks := false }, kinds := [], alts := [], laidByText := true, laidKinds := [.data], laidTests := true, laidLooks := .later }
def CodeNextsUptoCardSaid : Prop := Claim7.holds Tryd.pinned (.plain (OpenSpec.upto codeNextsSpec)) codeNextsUptoCard

/-- THE SECOND FORM's CARD OF 'brazierlaw08.CodeCut'. -/
def codeCutUptoCard : Claim7 := { stood := { row := codeCutUptoRow, standIns := [], harness := (true, "5f1e793591192a463892d6f29d5c3e3956f021a4c5502e181d11cc0507c1847a"), looks := false }, kinds := [], alts := [], laidByText := true, laidKinds := [.data], laidTests := true, laidLooks := .later }
def CodeCutUptoCardSaid : Prop := Claim7.holds Tryd.pinned (.plain (OpenSpec.upto codeCutSpec)) codeCutUptoCard
end Rows
end Go.Proofs.YteagkdmefmpokaaDoor
