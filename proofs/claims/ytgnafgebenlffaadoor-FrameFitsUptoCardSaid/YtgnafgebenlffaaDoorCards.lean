/-
  DERIVED. GIVEN WITH THE SEED: THE CARDS: each row of YtgnafgebenlffaaDoorRows.lean that lists a variable, with what it lists TIED to the program's text (the seventh form; the later family's looks); each row that meets fmt, with fmt's text TOLD by the authors' own Lean function (tested against real Go, not proved from fmt's source: count such statements apart). THE CARD IS WHAT COUNTS. Prove the row's statement (the work); the ties are given (YtgnafgebenlffaaDoorTie.lean); close each card by the builder's one call (the guide's Derived/Test/ToyasCard.lean, 'card_holds'). Laid BY PROGRAM, IN A SANDBOX (cutbox-door.mjs). By AI agents, Wed Nov 11 2026. No macro, syntax, notation, axiom, sorry.
-/
import Derived.Test.YtgnafgebenlffaaDoorRows
import GoSem.ClaimSeven
namespace Go.Proofs.YtgnafgebenlffaaDoor
namespace Rows

/-- THE TIED CARD OF 'switchbacklaw19.FrameTells'. -/
def frameTellsCard : Claim7 := { stood := { row := frameTellsRow, standIns := [], harness := (true, "7caecb5dde63141482aa67b745b3219959070a098a8ed1a4e9b867905e81a8bd"), looks := false }, kinds := [], alts := [], laidByText := true, laidKinds := [.data], laidTests := true, laidLooks := .later }
def FrameTellsCardSaid : Prop := Claim7.holds Tryd.pinned (.plain (OpenSpec.ofChange frameTellsSpec)) frameTellsCard

/-- THE TIED CARD OF 'switchbacklaw19.FrameSmall'. -/
def frameSmallCard : Claim7 := { stood := { row := frameSmallRow, standIns := [], harness := (true, "7caecb5dde63141482aa67b745b3219959070a098a8ed1a4e9b867905e81a8bd"), looks := false }, kinds := [], alts := [], laidByText := true, laidKinds := [.data], laidTests := true, laidLooks := .later }
def FrameSmallCardSaid : Prop := Claim7.holds Tryd.pinned (.plain (OpenSpec.ofChange frameSmallSpec)) frameSmallCard

/-- THE TIED CARD OF 'switchbacklaw19.FrameFits'. -/
def frameFitsCard : Claim7 := { stood := { row := frameFitsRow, standIns := [], harness := (true, "7caecb5dde63141482aa67b745b3219959070a098a8ed1a4e9b867905e81a8bd"), looks := false }, kinds := [], alts := [], laidByText := true, laidKinds := [.data], laidTests := true, laidLooks := .later }
def FrameFitsCardSaid : Prop := Claim7.holds Tryd.pinned (.plain (OpenSpec.ofChange frameFitsSpec)) frameFitsCard

/-- THE TIED CARD OF 'switchbacklaw19.FrameGrows'. -/
def frameGrowsCard : Claim7 := { stood := { row := frameGrowsRow, standIns := [], harness := (true, "7caecb5dde63141482aa67b745b3219959070a098a8ed1a4e9b867905e81a8bd"), looks := false }, kinds := [], alts := [], laidByText := true, laidKinds := [.data], laidTests := true, laidLooks := .later }
def FrameGrowsCardSaid : Prop := Claim7.holds Tryd.pinned (.plain (OpenSpec.ofChange frameGrowsSpec)) frameGrowsCard

/-- THE SECOND FORM's CARD OF 'switchbacklaw19.FrameTells'. -/
def frameTellsUptoCard : Claim7 := { stood := { row := frameTellsUptoRow, standIns := [], harness := (true, "7caecb5dde63141482aa67b745b3219959070a098a8ed1a4e9b867905e81a8bd"), looks := false }, kinds := [], alts := [], laidByText := true, laidKinds := [.data], laidTests := true, laidLooks := .later }
def FrameTellsUptoCardSaid : Prop := Claim7.holds Tryd.pinned (.plain (OpenSpec.upto frameTellsSpec)) frameTellsUptoCard

/-- THE SECOND FORM's CARD OF 'switchbacklaw19.FrameSmall'. -/
def frameSmallUptoCard : Claim7 := { stood := { row := frameSmallUptoRow, standIns := [], harness := (true, "7caecb5dde63141482aa67b745b3219959070a098a8ed1a4e9b867905e81a8bd"), looks := false }, kinds := [], alts := [], laidByText := true, laidKinds := [.data], laidTests := true, laidLooks := .later }
def FrameSmallUptoCardSaid : Prop := Claim7.holds Tryd.pinned (.plain (OpenSpec.upto frameSmallSpec)) frameSmallUptoCard

/-- THE SECOND FORM's CARD OF 'switchbacklaw19.FrameFits'. -/
def frameFitsUptoCard : Claim7 := { stood := { row := frameFitsUptoRow, standIns := [], harness := (true, "7caecb5dde63141482aa67b745b3219959070a098a8ed1a4e9b867905e81a8bd"), looks := false }, kinds := [], alts := [], laidByText := true, laidKinds := [.data], laidTests := true, laidLooks := .later }
def FrameFitsUptoCardSaid : Prop := Claim7.holds Tryd.pinned (.plain (OpenSpec.upto frameFitsSpec)) frameFitsUptoCard

/-- THE SECOND FORM's CARD OF 'switchbacklaw19.FrameGrows'. -/
def frameGrowsUptoCard : Claim7 := { stood := { row := frameGrowsUptoRow, standIns := [], harness := (true, "7caecb5dde63141482aa67b745b3219959070a098a8ed1a4e9b867905e81a8bd"), looks := false }, kinds := [], alts := [], laidByText := true, laidKinds := [.data], laidTests := true, laidLooks := .later }
def FrameGrowsUptoCardSaid : Prop := Claim7.holds Tryd.pinned (.plain (OpenSpec.upto frameGrowsSpec)) frameGrowsUptoCard
end Rows
end Go.Proofs.YtgnafgebenlffaaDoor
