/-
  DERIVED. GIVEN WITH THE SEED: THE CARDS: each row of YtlgefjcfnnjkbaaDoorRows.lean that lists a variable, with what it lists TIED to the program's text (the seventh form; the later family's looks); each row that meets fmt, with fmt's text TOLD by the authors' own Lean function (tested against real Go, not proved from fmt's source: count such statements apart). THE CARD IS WHAT COUNTS. Prove the row's statement (the work); the ties are given (YtlgefjcfnnjkbaaDoorTie.lean); close each card by the builder's one call (the guide's Derived/Test/ToyasCard.lean, 'card_holds'). Laid BY PROGRAM, IN A SANDBOX (cutbox-door.mjs). By AI agents, Wed Nov 11 2026. No macro, syntax, notation, axiom, sorry.
-/
import Derived.Test.YtlgefjcfnnjkbaaDoorRows
import GoSem.ClaimSeven
namespace Go.Proofs.YtlgefjcfnnjkbaaDoor
namespace Rows

/-- THE TIED CARD OF 'morainelaw13.LogEpochs'. -/
def logEpochsCard : Claim7 := { stood := { row := logEpochsRow, standIns := [], harness := (true, "0fe1fd3421e7e6ccb5b73026711645326f6c2b630e3bb72660bc8edc9478381d"), looks := true }, kinds := [], alts := [], laidByText := true, laidKinds := [.handle], laidTests := true, laidLooks := .later }
def LogEpochsCardSaid : Prop := Claim7.holds Tryd.pinned (.plain (OpenSpec.ofChange logEpochsSpec)) logEpochsCard

/-- THE SECOND FORM's CARD OF 'morainelaw13.LogEpochs'. -/
def logEpochsUptoCard : Claim7 := { stood := { row := logEpochsUptoRow, standIns := [], harness := (true, "0fe1fd3421e7e6ccb5b73026711645326f6c2b630e3bb72660bc8edc9478381d"), looks := true }, kinds := [], alts := [], laidByText := true, laidKinds := [.handle], laidTests := true, laidLooks := .later }
def LogEpochsUptoCardSaid : Prop := Claim7.holds Tryd.pinned (.plain (OpenSpec.upto logEpochsSpec)) logEpochsUptoCard
end Rows
end Go.Proofs.YtlgefjcfnnjkbaaDoor
