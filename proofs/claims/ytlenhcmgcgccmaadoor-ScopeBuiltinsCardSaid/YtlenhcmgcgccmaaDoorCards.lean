/-
  DERIVED. GIVEN WITH THE SEED: THE CARDS: each row of YtlenhcmgcgccmaaDoorRows.lean that lists a variable, with what it lists TIED to the program's text (the seventh form; the later family's looks); each row that meets fmt, with fmt's text TOLD by the authors' own Lean function (tested against real Go, not proved from fmt's source: count such statements apart). THE CARD IS WHAT COUNTS. Prove the row's statement (the work); the ties are given (YtlenhcmgcgccmaaDoorTie.lean); close each card by the builder's one call (the guide's Derived/Test/ToyasCard.lean, 'card_holds'). Laid BY PROGRAM, IN A SANDBOX (cutbox-door.mjs). By AI agents, Wed Nov 11 2026. No macro, syntax, notation, axiom, sorry.
-/
import Derived.Test.YtlenhcmgcgccmaaDoorRows
import GoSem.ClaimSeven
namespace Go.Proofs.YtlenhcmgcgccmaaDoor
namespace Rows

/-- THE TIED CARD OF 'brazierlaw07.ScopeBuiltins'. -/
def scopeBuiltinsCard : Claim7 := { stood := { row := scopeBuiltinsRow, standIns := [], harness := (true, "ebd577f353ae2d2b7facab9a10bf25cbab62f91cb313d02d3d1d8ccf6f92778f"), looks := true }, kinds := [], alts := [], laidByText := true, laidKinds := [.listed, .data], laidTests := true, laidLooks := .later }
def ScopeBuiltinsCardSaid : Prop := Claim7.holds Tryd.pinned (.plain (OpenSpec.ofChange scopeBuiltinsSpec)) scopeBuiltinsCard

/-- THE TIED CARD OF 'brazierlaw07.ScopeUses'. -/
def scopeUsesCard : Claim7 := { stood := { row := scopeUsesRow, standIns := [], harness := (true, "ebd577f353ae2d2b7facab9a10bf25cbab62f91cb313d02d3d1d8ccf6f92778f"), looks := true }, kinds := [], alts := [], laidByText := true, laidKinds := [.listed, .data], laidTests := true, laidLooks := .later }
def ScopeUsesCardSaid : Prop := Claim7.holds Tryd.pinned (.plain (OpenSpec.ofChange scopeUsesSpec)) scopeUsesCard

/-- THE TIED CARD OF 'brazierlaw07.ScopeRenamed'. -/
def scopeRenamedCard : Claim7 := { stood := { row := scopeRenamedRow, standIns := [], harness := (true, "ebd577f353ae2d2b7facab9a10bf25cbab62f91cb313d02d3d1d8ccf6f92778f"), looks := true }, kinds := [], alts := [], laidByText := true, laidKinds := [.listed, .data], laidTests := true, laidLooks := .later }
def ScopeRenamedCardSaid : Prop := Claim7.holds Tryd.pinned (.plain (OpenSpec.ofChange scopeRenamedSpec)) scopeRenamedCard

/-- THE TIED CARD OF 'brazierlaw07.ScopeWrapped'. -/
def scopeWrappedCard : Claim7 := { stood := { row := scopeWrappedRow, standIns := [], harness := (true, "ebd577f353ae2d2b7facab9a10bf25cbab62f91cb313d02d3d1d8ccf6f92778f"), looks := true }, kinds := [], alts := [], laidByText := true, laidKinds := [.listed, .data], laidTests := true, laidLooks := .later }
def ScopeWrappedCardSaid : Prop := Claim7.holds Tryd.pinned (.plain (OpenSpec.ofChange scopeWrappedSpec)) scopeWrappedCard

/-- THE TIED CARD OF 'brazierlaw07.ScopeCaptured'. -/
def scopeCapturedCard : Claim7 := { stood := { row := scopeCapturedRow, standIns := [], harness := (true, "ebd577f353ae2d2b7facab9a10bf25cbab62f91cb313d02d3d1d8ccf6f92778f"), looks := true }, kinds := [], alts := [], laidByText := true, laidKinds := [.listed, .data], laidTests := true, laidLooks := .later }
def ScopeCapturedCardSaid : Prop := Claim7.holds Tryd.pinned (.plain (OpenSpec.ofChange scopeCapturedSpec)) scopeCapturedCard

/-- THE SECOND FORM's CARD OF 'brazierlaw07.ScopeBuiltins'. -/
def scopeBuiltinsUptoCard : Claim7 := { stood := { row := scopeBuiltinsUptoRow, standIns := [], harness := (true, "ebd577f353ae2d2b7facab9a10bf25cbab62f91cb313d02d3d1d8ccf6f92778f"), looks := true }, kinds := [], alts := [], laidByText := true, laidKinds := [.listed, .data], laidTests := true, laidLooks := .later }
def ScopeBuiltinsUptoCardSaid : Prop := Claim7.holds Tryd.pinned (.plain (OpenSpec.upto scopeBuiltinsSpec)) scopeBuiltinsUptoCard

/-- THE SECOND FORM's CARD OF 'brazierlaw07.ScopeUses'. -/
def scopeUsesUptoCard : Claim7 := { stood := { row := scopeUsesUptoRow, standIns := [], harness := (true, "ebd577f353ae2d2b7facab9a10bf25cbab62f91cb313d02d3d1d8ccf6f92778f"), looks := true }, kinds := [], alts := [], laidByText := true, laidKinds := [.listed, .data], laidTests := true, laidLooks := .later }
def ScopeUsesUptoCardSaid : Prop := Claim7.holds Tryd.pinned (.plain (OpenSpec.upto scopeUsesSpec)) scopeUsesUptoCard

/-- THE SECOND FORM's CARD OF 'brazierlaw07.ScopeRenamed'. -/
def scopeRenamedUptoCard : Claim7 := { stood := { row := scopeRenamedUptoRow, standIns := [], harness := (true, "ebd577f353ae2d2b7facab9a10bf25cbab62f91cb313d02d3d1d8ccf6f92778f"), looks := true }, kinds := [], alts := [], laidByText := true, laidKinds := [.listed, .data], laidTests := true, laidLooks := .later }
def ScopeRenamedUptoCardSaid : Prop := Claim7.holds Tryd.pinned (.plain (OpenSpec.upto scopeRenamedSpec)) scopeRenamedUptoCard

/-- THE SECOND FORM's CARD OF 'brazierlaw07.ScopeWrapped'. -/
def scopeWrappedUptoCard : Claim7 := { stood := { row := scopeWrappedUptoRow, standIns := [], harness := (true, "ebd577f353ae2d2b7facab9a10bf25cbab62f91cb313d02d3d1d8ccf6f92778f"), looks := true }, kinds := [], alts := [], laidByText := true, laidKinds := [.listed, .data], laidTests := true, laidLooks := .later }
def ScopeWrappedUptoCardSaid : Prop := Claim7.holds Tryd.pinned (.plain (OpenSpec.upto scopeWrappedSpec)) scopeWrappedUptoCard

/-- THE SECOND FORM's CARD OF 'brazierlaw07.ScopeCaptured'. -/
def scopeCapturedUptoCard : Claim7 := { stood := { row := scopeCapturedUptoRow, standIns := [], harness := (true, "ebd577f353ae2d2b7facab9a10bf25cbab62f91cb313d02d3d1d8ccf6f92778f"), looks := true }, kinds := [], alts := [], laidByText := true, laidKinds := [.listed, .data], laidTests := true, laidLooks := .later }
def ScopeCapturedUptoCardSaid : Prop := Claim7.holds Tryd.pinned (.plain (OpenSpec.upto scopeCapturedSpec)) scopeCapturedUptoCard
end Rows
end Go.Proofs.YtlenhcmgcgccmaaDoor
