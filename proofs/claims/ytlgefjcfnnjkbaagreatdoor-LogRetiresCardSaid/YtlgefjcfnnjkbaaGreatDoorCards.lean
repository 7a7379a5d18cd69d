/-
  DERIVED. GIVEN WITH THE SEED: THE CARDS: each row of YtlgefjcfnnjkbaaGreatDoorRows.lean that lists a variable, with what it lists TIED to the program's text (the seventh form; the later family's looks); each row that meets fmt, with fmt's text TOLD by the authors' own Lean function (tested against real Go, not proved from fmt's source: count such statements apart). THE CARD IS WHAT COUNTS. Prove the row's statement (the work); the ties are given (YtlgefjcfnnjkbaaGreatDoorTie.lean); close each card by the builder's one call (the guide's Derived/Test/ToyasCard.lean, 'card_holds'). Laid BY PROGRAM, IN A SANDBOX (cutbox-door.mjs). By AI agents, Wed Nov 11 2026. No macro, syntax, notation, axiom, sorry.
-/
import Derived.Test.YtlgefjcfnnjkbaaGreatDoorRows
import GoSem.ClaimSeven
namespace Go.Proofs.YtlgefjcfnnjkbaaGreatDoor
namespace Rows

/-- THE TIED CARD OF 'morainelaw13.LogRetires'. -/
def logRetiresCard : Claim7 := { stood := { row := logRetiresRow, standIns := [], harness := (true, "1465e7e926c0f6ee08eb4c6266c14711217be1573c9c66953dd38f6bc786eaaf"), looks := true }, kinds := [], alts := [], laidByText := true, laidKinds := [.handle], laidTests := true, laidLooks := .later }
def LogRetiresCardSaid : Prop := Claim7.holds Tryz.pinned (.plain (OpenSpec.ofChange logRetiresSpec)) logRetiresCard

/-- THE TIED CARD OF 'morainelaw13.LogSealed'. -/
def logSealedCard : Claim7 := { stood := { row := logSealedRow, standIns := [], harness := (true, "1465e7e926c0f6ee08eb4c6266c14711217be1573c9c66953dd38f6bc786eaaf"), looks := true }, kinds := [], alts := [], laidByText := true, laidKinds := [.handle], laidTests := true, laidLooks := .later }
def LogSealedCardSaid : Prop := Claim7.holds Tryz.pinned (.plain (OpenSpec.ofChange logSealedSpec)) logSealedCard

/-- THE TIED CARD OF 'morainelaw13.LogAgain'. -/
def logAgainCard : Claim7 := { stood := { row := logAgainRow, standIns := [], harness := (true, "1465e7e926c0f6ee08eb4c6266c14711217be1573c9c66953dd38f6bc786eaaf"), looks := true }, kinds := [], alts := [], laidByText := true, laidKinds := [.handle], laidTests := true, laidLooks := .later }
def LogAgainCardSaid : Prop := Claim7.holds Tryz.pinned (.plain (OpenSpec.ofChange logAgainSpec)) logAgainCard

/-- THE TIED CARD OF 'morainelaw13.LogCut'. -/
def logCutCard : Claim7 := { stood := { row := logCutRow, standIns := [], harness := (true, "1465e7e926c0f6ee08eb4c6266c14711217be1573c9c66953dd38f6bc786eaaf"), looks := true }, kinds := [], alts := [], laidByText := true, laidKinds := [.handle], laidTests := true, laidLooks := .later }
def LogCutCardSaid : Prop := Claim7.holds Tryz.pinned (.plain (OpenSpec.ofChange logCutSpec)) logCutCard

/-- THE TIED CARD OF 'morainelaw13.LogRots'. -/
def logRotsCard : Claim7 := { stood := { row := logRotsRow, standIns := [], harness := (true, "1465e7e926c0f6ee08eb4c6266c14711217be1573c9c66953dd38f6bc786eaaf"), looks := true }, kinds := [], alts := [], laidByText := true, laidKinds := [.handle], laidTests := true, laidLooks := .later }
def LogRotsCardSaid : Prop := Claim7.holds Tryz.pinned (.plain (OpenSpec.ofChange logRotsSpec)) logRotsCard

/-- THE TIED CARD OF 'morainelaw13.LogKept'. -/
def logKeptCard : Claim7 := { stood := { row := logKeptRow, standIns := [], harness := (true, "1465e7e926c0f6ee08eb4c6266c14711217be1573c9c66953dd38f6bc786eaaf"), looks := true }, kinds := [], alts := [], laidByText := true, laidKinds := [.handle], laidTests := true, laidLooks := .later }
def LogKeptCardSaid : Prop := Claim7.holds Tryz.pinned (.plain (OpenSpec.ofChange logKeptSpec)) logKeptCard

/-- THE SECOND FORM's CARD OF 'morainelaw13.LogRetires'. -/
def logRetiresUptoCard : Claim7 := { stood := { row := logRetiresUptoRow, standIns := [], harness := (true, "1465e7e926c0f6ee08eb4c6266c14711217be1573c9c66953dd38f6bc786eaaf"), looks := true }, kinds := [], alts := [], laidByText := true, laidKinds := [.handle], laidTests := true, laidLooks := .later }
def LogRetiresUptoCardSaid : Prop := Claim7.holds Tryz.pinned (.plain (OpenSpec.upto logRetiresSpec)) logRetiresUptoCard

/-- THE SECOND FORM's CARD OF 'morainelaw13.LogSealed'. -/
def logSealedUptoCard : Claim7 := { stood := { row := logSealedUptoRow, standIns := [], harness := (true, "1465e7e926c0f6ee08eb4c6266c14711217be1573c9c66953dd38f6bc786eaaf"), looks := true }, kinds := [], alts := [], laidByText := true, laidKinds := [.handle], laidTests := true, laidLooks := .later }
def LogSealedUptoCardSaid : Prop := Claim7.holds Tryz.pinned (.plain (OpenSpec.upto logSealedSpec)) logSealedUptoCard

/-- THE SECOND FORM's CARD OF 'morainelaw13.LogAgain'. -/
def logAgainUptoCard : Claim7 := { stood := { row := logAgainUptoRow, standIns := [], harness := (true, "1465e7e926c0f6ee08eb4c6266c14711217be1573c9c66953dd38f6bc786eaaf"), looks := true }, kinds := [], alts := [], laidByText := true, laidKinds := [.handle], laidTests := true, laidLooks := .later }
def LogAgainUptoCardSaid : Prop := Claim7.holds Tryz.pinned (.plain (OpenSpec.upto logAgainSpec)) logAgainUptoCard

/-- THE SECOND FORM's CARD OF 'morainelaw13.LogCut'. -/
def logCutUptoCard : Claim7 := { stood := { row := logCutUptoRow, standIns := [], harness := (true, "1465e7e926c0f6ee08eb4c6266c14711217be1573c9c66953dd38f6bc786eaaf"), looks := true }, kinds := [], alts := [], laidByText := true, laidKinds := [.handle], laidTests := true, laidLooks := .later }
def LogCutUptoCardSaid : Prop := Claim7.holds Tryz.pinned (.plain (OpenSpec.upto logCutSpec)) logCutUptoCard

/-- THE SECOND FORM's CARD OF 'morainelaw13.LogRots'. -/
def logRotsUptoCard : Claim7 := { stood := { row := logRotsUptoRow, standIns := [], harness := (true, "1465e7e926c0f6ee08eb4c6266c14711217be1573c9c66953dd38f6bc786eaaf"), looks := true }, kinds := [], alts := [], laidByText := true, laidKinds := [.handle], laidTests := true, laidLooks := .later }
def LogRotsUptoCardSaid : Prop := Claim7.holds Tryz.pinned (.plain (OpenSpec.upto logRotsSpec)) logRotsUptoCard

/-- THE SECOND FORM's CARD OF 'morainelaw13.LogKept'. -/
def logKeptUptoCard : Claim7 := { stood := { row := logKeptUptoRow, standIns := [], harness := (true, "1465e7e926c0f6ee08eb4c6266c14711217be1573c9c66953dd38f6bc786eaaf"), looks := true }, kinds := [], alts := [], laidByText := true, laidKinds := [.handle], laidTests := true, laidLooks := .later }
def LogKeptUptoCardSaid : Prop := Claim7.holds Tryz.pinned (.plain (OpenSpec.upto logKeptSpec)) logKeptUptoCard
end Rows
end Go.Proofs.YtlgefjcfnnjkbaaGreatDoor
