/-
  DERIVED. GIVEN WITH THE SEED: THE CARDS: each row of YtdgcafohfedbhaaDoorRows.lean that lists a variable, with what it lists TIED to the program's text (the seventh form; the later family's looks); each row that meets fmt, with fmt's text TOLD by the authors' own Lean function (tested against real Go, not proved from fmt's source: count such statements apart). THE CARD IS WHAT COUNTS. Prove the row's statement (the work); the ties are given (YtdgcafohfedbhaaDoorTie.lean); close each card by the builder's one call (the guide's Derived/Test/ToyasCard.lean, 'card_holds'). Laid BY PROGRAM, IN A SANDBOX (cutbox-door.mjs). By AI agents, Wed Nov 11 2026. No macro, syntax, notation, axiom, sorry.
-/
import Derived.Test.YtdgcafohfedbhaaDoorRows
import GoSem.ClaimSeven
namespace Go.Proofs.YtdgcafohfedbhaaDoor
namespace Rows

/-- THE TIED CARD OF 'tidemilllaw04.LinkSums'. -/
def linkSumsCard : Claim7 := { stood := { row := linkSumsRow, standIns := [], harness := (true, "311b2e290b4c2c6f57eb14f6a38e85b5f90ad456050083c7ac3fe4ea5462ae1e"), looks := false }, kinds := [], alts := [], laidByText := true, laidKinds := [.data], laidTests := true, laidLooks := .later }
def LinkSumsCardSaid : Prop := Claim7.holds Tryd.pinned (.plain (OpenSpec.ofChange linkSumsSpec)) linkSumsCard

/-- THE TIED CARD OF 'tidemilllaw04.LinkFrames'. -/
def linkFramesCard : Claim7 := { stood := { row := linkFramesRow, standIns := [], harness := (true, "311b2e290b4c2c6f57eb14f6a38e85b5f90ad456050083c7ac3fe4ea5462ae1e"), looks := false }, kinds := [], alts := [], laidByText := true, laidKinds := [.data], laidTests := true, laidLooks := .later }
def LinkFramesCardSaid : Prop := Claim7.holds Tryd.pinned (.plain (OpenSpec.ofChange linkFramesSpec)) linkFramesCard

/-- THE TIED CARD OF 'tidemilllaw04.LinkTorn'. -/
def linkTornCard : Claim7 := { stood := { row := linkTornRow, standIns := [], harness := (true, "311b2e290b4c2c6f57eb14f6a38e85b5f90ad456050083c7ac3fe4ea5462ae1e"), looks := false }, kinds := [], alts := [], laidByText := true, laidKinds := [.data], laidTests := true, laidLooks := .later }
def LinkTornCardSaid : Prop := Claim7.holds Tryd.pinned (.plain (OpenSpec.ofChange linkTornSpec)) linkTornCard

/-- THE SECOND FORM's CARD OF 'tidemilllaw04.LinkSums'. -/
def linkSumsUptoCard : Claim7 := { stood := { row := linkSumsUptoRow, standIns := [], harness := (true, "311b2e290b4c2c6f57eb14f6a38e85b5f90ad456050083c7ac3fe4ea5462ae1e"), looks := false }, kinds := [], alts := [], laidByText := true, laidKinds := [.data], laidTests := true, laidLooks := .later }
def LinkSumsUptoCardSaid : Prop := Claim7.holds Tryd.pinned (.plain (OpenSpec.upto linkSumsSpec)) linkSumsUptoCard

/-- THE SECOND FORM's CARD OF 'tidemilllaw04.LinkFrames'. -/
def linkFramesUptoCard : Claim7 := { stood := { row := linkFramesUptoRow, standIns := [], harness := (true, "311b2e290b4c2c6f57eb14f6a38e85b5f90ad456050083c7ac3fe4ea5462ae1e"), looks := false }, kinds := [], alts := [], laidByText := true, laidKinds := [.data], laidTests := true, laidLooks := .later }
def LinkFramesUptoCardSaid : Prop := Claim7.holds Tryd.pinned (.plain (OpenSpec.upto linkFramesSpec)) linkFramesUptoCard

/-- THE SECOND FORM's CARD OF 'tidemilllaw04.LinkTorn'. -/
def linkTornUptoCard : Claim7 := { stood := { row := linkTornUptoRow, standIns := [], harness := (true, "311b2e290b4c2c6f57eb14f6a38e85b5f90ad456050083c7ac3fe4ea5462ae1e"), looks := false }, kinds := [], alts := [], laidByText := true, laidKinds := [.data], laidTests := true, laidLooks := .later }
def LinkTornUptoCardSaid : Prop := Claim7.holds Tryd.pinned (.plain (OpenSpec.upto linkTornSpec)) linkTornUptoCard
end Rows
end Go.Proofs.YtdgcafohfedbhaaDoor
