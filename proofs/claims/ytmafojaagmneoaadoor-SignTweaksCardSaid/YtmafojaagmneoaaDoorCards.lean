/-
  DERIVED. GIVEN WITH THE SEED: THE CARDS: each row of YtmafojaagmneoaaDoorRows.lean that lists a variable, with what it lists TIED to the program's text (the seventh form; the later family's looks); each row that meets fmt, with fmt's text TOLD by the authors' own Lean function (tested against real Go, not proved from fmt's source: count such statements apart). THE CARD IS WHAT COUNTS. Prove the row's statement (the work); the ties are given (YtmafojaagmneoaaDoorTie.lean); close each card by the builder's one call (the guide's Derived/Test/ToyasCard.lean, 'card_holds'). Laid BY PROGRAM, IN A SANDBOX (cutbox-door.mjs). By AI agents, Wed Nov 11 2026. No macro, syntax, notation, axiom, sorry.
-/
import Derived.Test.YtmafojaagmneoaaDoorRows
import GoSem.ClaimSeven
namespace Go.Proofs.YtmafojaagmneoaaDoor
namespace Rows

/-- THE TIED CARD OF 'lightclientlaw10.SpendUnwitnessed'. -/
def spendUnwitnessedCard : Claim7 := { stood := { row := spendUnwitnessedRow, standIns := [], harness := (true, "8a1e16ab26acbee1c9b870823d16aa3c0d538d04a780da76f881741d253d9a45"), looks := false }, kinds := [], alts := [], laidByText := true, laidKinds := [.data, .data], laidTests := true, laidLooks := .later }
def SpendUnwitnessedCardSaid : Prop := Claim7.holds Tryd.pinned (.plain (OpenSpec.ofChange spendUnwitnessedSpec)) spendUnwitnessedCard

/-- THE TIED CARD OF 'lightclientlaw06.SignRight'. -/
def signRightCard : Claim7 := { stood := { row := signRightRow, standIns := [], harness := (true, "8a1e16ab26acbee1c9b870823d16aa3c0d538d04a780da76f881741d253d9a45"), looks := false }, kinds := [], alts := [], laidByText := true, laidKinds := [.data, .data], laidTests := true, laidLooks := .later }
def SignRightCardSaid : Prop := Claim7.holds Tryd.pinned (.plain (OpenSpec.ofChange signRightSpec)) signRightCard

/-- THE TIED CARD OF 'lightclientlaw06.SignEncodes'. -/
def signEncodesCard : Claim7 := { stood := { row := signEncodesRow, standIns := [], harness := (true, "8a1e16ab26acbee1c9b870823d16aa3c0d538d04a780da76f881741d253d9a45"), looks := false }, kinds := [], alts := [], laidByText := true, laidKinds := [.data, .data], laidTests := true, laidLooks := .later }
def SignEncodesCardSaid : Prop := Claim7.holds Tryd.pinned (.plain (OpenSpec.ofChange signEncodesSpec)) signEncodesCard

/-- THE TIED CARD OF 'lightclientlaw06.SignTweaks'. -/
def signTweaksCard : Claim7 := { stood := { row := signTweaksRow, standIns := [], harness := (true, "8a1e16ab26acbee1c9b870823d16aa3c0d538d04a780da76f881741d253d9a45"), looks := false }, kinds := [], alts := [], laidByText := true, laidKinds := [.data, .data], laidTests := true, laidLooks := .later }
def SignTweaksCardSaid : Prop := Claim7.holds Tryd.pinned (.plain (OpenSpec.ofChange signTweaksSpec)) signTweaksCard

/-- THE TIED CARD OF 'lightclientlaw06.SignTwice'. -/
def signTwiceCard : Claim7 := { stood := { row := signTwiceRow, standIns := [], harness := (true, "8a1e16ab26acbee1c9b870823d16aa3c0d538d04a780da76f881741d253d9a45"), looks := false }, kinds := [], alts := [], laidByText := true, laidKinds := [.data, .data], laidTests := true, laidLooks := .later }
def SignTwiceCardSaid : Prop := Claim7.holds Tryd.pinned (.plain (OpenSpec.ofChange signTwiceSpec)) signTwiceCard

/-- THE SECOND FORM's CARD OF 'lightclientlaw10.SpendUnwitnessed'. -/
def spendUnwitnessedUptoCard : Claim7 := { stood := { row := spendUnwitnessedUptoRow, standIns := [], harness := (true, "8a1e16ab26acbee1c9b870823d16aa3c0d538d04a780da76f881741d253d9a45"), looks := false }, kinds := [], alts := [], laidByText := true, laidKinds := [.data, .data], laidTests := true, laidLooks := .later }
def SpendUnwitnessedUptoCardSaid : Prop := Claim7.holds Tryd.pinned (.plain (OpenSpec.upto spendUnwitnessedSpec)) spendUnwitnessedUptoCard

/-- THE SECOND FORM's CARD OF 'lightclientlaw06.SignRight'. -/
def signRightUptoCard : Claim7 := { stood := { row := signRightUptoRow, standIns := [], harness := (true, "8a1e16ab26acbee1c9b870823d16aa3c0d538d04a780da76f881741d253d9a45"), looks := false }, kinds := [], alts := [], laidByText := true, laidKinds := [.data, .data], laidTests := true, laidLooks := .later }
def SignRightUptoCardSaid : Prop := Claim7.holds Tryd.pinned (.plain (OpenSpec.upto signRightSpec)) signRightUptoCard

/-- THE SECOND FORM's CARD OF 'lightclientlaw06.SignEncodes'. -/
def signEncodesUptoCard : Claim7 := { stood := { row := signEncodesUptoRow, standIns := [], harness := (true, "8a1e16ab26acbee1c9b870823d16aa3c0d538d04a780da76f881741d253d9a45"), looks := false }, kinds := [], alts := [], laidByText := true, laidKinds := [.data, .data], laidTests := true, laidLooks := .later }
def SignEncodesUptoCardSaid : Prop := Claim7.holds Tryd.pinned (.plain (OpenSpec.upto signEncodesSpec)) signEncodesUptoCard

/-- THE SECOND FORM's CARD OF 'lightclientlaw06.SignTweaks'. -/
def signTweaksUptoCard : Claim7 := { stood := { row := signTweaksUptoRow, standIns := [], harness := (true, "8a1e16ab26acbee1c9b870823d16aa3c0d538d04a780da76f881741d253d9a45"), looks := false }, kinds := [], alts := [], laidByText := true, laidKinds := [.data, .data], laidTests := true, laidLooks := .later }
def SignTweaksUptoCardSaid : Prop := Claim7.holds Tryd.pinned (.plain (OpenSpec.upto signTweaksSpec)) signTweaksUptoCard

/-- THE SECOND FORM's CARD OF 'lightclientlaw06.SignTwice'. -/
def signTwiceUptoCard : Claim7 := { stood := { row := signTwiceUptoRow, standIns := [], harness := (true, "8a1e16ab26acbee1c9b870823d16aa3c0d538d04a780da76f881741d253d9a45"), looks := false }, kinds := [], alts := [], laidByText := true, laidKinds := [.data, .data], laidTests := true, laidLooks := .later }
def SignTwiceUptoCardSaid : Prop := Claim7.holds Tryd.pinned (.plain (OpenSpec.upto signTwiceSpec)) signTwiceUptoCard
end Rows
end Go.Proofs.YtmafojaagmneoaaDoor
