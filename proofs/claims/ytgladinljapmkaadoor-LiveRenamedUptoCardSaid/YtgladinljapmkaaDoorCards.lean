/-
  DERIVED. GIVEN WITH THE SEED: THE CARDS: each row of YtgladinljapmkaaDoorRows.lean that lists a variable, with what it lists TIED to the program's text (the seventh form; the later family's looks); each row that meets fmt, with fmt's text TOLD by the authors' own Lean function (tested against real Go, not proved from fmt's source: count such statements apart). THE CARD IS WHAT COUNTS. Prove the row's statement (the work); the ties are given (YtgladinljapmkaaDoorTie.lean); close each card by the builder's one call (the guide's Derived/Test/ToyasCard.lean, 'card_holds'). Laid BY PROGRAM, IN A SANDBOX (cutbox-door.mjs). By AI agents, Wed Nov 11 2026. No macro, syntax, notation, axiom, sorry.
-/
import Derived.Test.YtgladinljapmkaaDoorRows
import GoSem.ClaimSeven
namespace Go.Proofs.YtgladinljapmkaaDoor
namespace Rows

/-- THE TIED CARD OF 'switchbacklaw13.LiveTells'. -/
def liveTellsCard : Claim7 := { stood := { row := liveTellsRow, standIns := [], harness := (true, "00ea075ed99ffd2b387b68f8570a66784b92ebd58d95a5b0df5b4cd2e51a89e6"), looks := false }, kinds := [], alts := [], laidByText := true, laidKinds := [.data], laidTests := true, laidLooks := .later }
def LiveTellsCardSaid : Prop := Claim7.holds Tryd.pinned (.plain (OpenSpec.ofChange liveTellsSpec)) liveTellsCard

/-- THE TIED CARD OF 'switchbacklaw13.LiveSteps'. -/
def liveStepsCard : Claim7 := { stood := { row := liveStepsRow, standIns := [], harness := (true, "00ea075ed99ffd2b387b68f8570a66784b92ebd58d95a5b0df5b4cd2e51a89e6"), looks := false }, kinds := [], alts := [], laidByText := true, laidKinds := [.data], laidTests := true, laidLooks := .later }
def LiveStepsCardSaid : Prop := Claim7.holds Tryd.pinned (.plain (OpenSpec.ofChange liveStepsSpec)) liveStepsCard

/-- THE TIED CARD OF 'switchbacklaw13.LiveNoMore'. -/
def liveNoMoreCard : Claim7 := { stood := { row := liveNoMoreRow, standIns := [], harness := (true, "00ea075ed99ffd2b387b68f8570a66784b92ebd58d95a5b0df5b4cd2e51a89e6"), looks := false }, kinds := [], alts := [], laidByText := true, laidKinds := [.data], laidTests := true, laidLooks := .later }
def LiveNoMoreCardSaid : Prop := Claim7.holds Tryd.pinned (.plain (OpenSpec.ofChange liveNoMoreSpec)) liveNoMoreCard

/-- THE TIED CARD OF 'switchbacklaw13.LiveRenamed'. -/
def liveRenamedCard : Claim7 := { stood := { row := liveRenamedRow, standIns := [], harness := (true, "00ea075ed99ffd2b387b68f8570a66784b92ebd58d95a5b0df5b4cd2e51a89e6"), looks := false }, kinds := [], alts := [], laidByText := true, laidKinds := [.data], laidTests := true, laidLooks := .later }
def LiveRenamedCardSaid : Prop := Claim7.holds Tryd.pinned (.plain (OpenSpec.ofChange liveRenamedSpec)) liveRenamedCard

/-- THE TIED CARD OF 'switchbacklaw13.LiveTurned'. -/
def liveTurnedCard : Claim7 := { stood := { row := liveTurnedRow, standIns := [], harness := (true, "00ea075ed99ffd2b387b68f8570a66784b92ebd58d95a5b0df5b4cd2e51a89e6"), looks := false }, kinds := [], alts := [], laidByText := true, laidKinds := [.data], laidTests := true, laidLooks := .later }
def LiveTurnedCardSaid : Prop := Claim7.holds Tryd.pinned (.plain (OpenSpec.ofChange liveTurnedSpec)) liveTurnedCard

/-- THE TIED CARD OF 'switchbacklaw13.LiveRemoved'. -/
def liveRemovedCard : Claim7 := { stood := { row := liveRemovedRow, standIns := [], harness := (true, "00ea075ed99ffd2b387b68f8570a66784b92ebd58d95a5b0df5b4cd2e51a89e6"), looks := false }, kinds := [], alts := [], laidByText := true, laidKinds := [.data], laidTests := true, laidLooks := .later }
def LiveRemovedCardSaid : Prop := Claim7.holds Tryd.pinned (.plain (OpenSpec.ofChange liveRemovedSpec)) liveRemovedCard

/-- THE SECOND FORM's CARD OF 'switchbacklaw13.LiveTells'. -/
def liveTellsUptoCard : Claim7 := { stood := { row := liveTellsUptoRow, standIns := [], harness := (true, "00ea075ed99ffd2b387b68f8570a66784b92ebd58d95a5b0df5b4cd2e51a89e6"), looks := false }, kinds := [], alts := [], laidByText := true, laidKinds := [.data], laidTests := true, laidLooks := .later }
def LiveTellsUptoCardSaid : Prop := Claim7.holds Tryd.pinned (.plain (OpenSpec.upto liveTellsSpec)) liveTellsUptoCard

/-- THE SECOND FORM's CARD OF 'switchbacklaw13.LiveSteps'. -/
def liveStepsUptoCard : Claim7 := { stood := { row := liveStepsUptoRow, standIns := [], harness := (true, "00ea075ed99ffd2b387b68f8570a66784b92ebd58d95a5b0df5b4cd2e51a89e6"), looks := false }, kinds := [], alts := [], laidByText := true, laidKinds := [.data], laidTests := true, laidLooks := .later }
def LiveStepsUptoCardSaid : Prop := Claim7.holds Tryd.pinned (.plain (OpenSpec.upto liveStepsSpec)) liveStepsUptoCard

/-- THE SECOND FORM's CARD OF 'switchbacklaw13.LiveNoMore'. -/
def liveNoMoreUptoCard : Claim7 := { stood := { row := liveNoMoreUptoRow, standIns := [], harness := (true, "00ea075ed99ffd2b387b68f8570a66784b92ebd58d95a5b0df5b4cd2e51a89e6"), looks := false }, kinds := [], alts := [], laidByText := true, laidKinds := [.data], laidTests := true, laidLooks := .later }
def LiveNoMoreUptoCardSaid : Prop := Claim7.holds Tryd.pinned (.plain (OpenSpec.upto liveNoMoreSpec)) liveNoMoreUptoCard

/-- THE SECOND FORM's CARD OF 'switchbacklaw13.LiveRenamed'. -/
def liveRenamedUptoCard : Claim7 := { stood := { row := liveRenamedUptoRow, standIns := [], harness := (true, "00ea075ed99ffd2b387b68f8570a66784b92ebd58d95a5b0df5b4cd2e51a89e6"), looks := false }, kinds := [], alts := [], laidByText := true, laidKinds := [.data], laidTests := true, laidLooks := .later }
def LiveRenamedUptoCardSaid : Prop := Claim7.holds Tryd.pinned (.plain (OpenSpec.upto liveRenamedSpec)) liveRenamedUptoCard

/-- THE SECOND FORM's CARD OF 'switchbacklaw13.LiveTurned'. -/
def liveTurnedUptoCard : Claim7 := { stood := { row := liveTurnedUptoRow, standIns := [], harness := (true, "00ea075ed99ffd2b387b68f8570a66784b92ebd58d95a5b0df5b4cd2e51a89e6"), looks := false }, kinds := [], alts := [], laidByText := true, laidKinds := [.data], laidTests := true, laidLooks := .later }
def LiveTurnedUptoCardSaid : Prop := Claim7.holds Tryd.pinned (.plain (OpenSpec.upto liveTurnedSpec)) liveTurnedUptoCard

/-- THE SECOND FORM's CARD OF 'switchbacklaw13.LiveRemoved'. -/
def liveRemovedUptoCard : Claim7 := { stood := { row := liveRemovedUptoRow, standIns := [], harness := (true, "00ea075ed99ffd2b387b68f8570a66784b92ebd58d95a5b0df5b4cd2e51a89e6"), looks := false }, kinds := [], alts := [], laidByText := true, laidKinds := [.data], laidTests := true, laidLooks := .later }
def LiveRemovedUptoCardSaid : Prop := Claim7.holds Tryd.pinned (.plain (OpenSpec.upto liveRemovedSpec)) liveRemovedUptoCard
end Rows
end Go.Proofs.YtgladinljapmkaaDoor
