/-
  DERIVED. GIVEN WITH THE SEED: THE CARDS: each row of YtolflieiipnndaaDoorRows.lean that lists a variable, with what it lists TIED to the program's text (the seventh form; the later family's looks); each row that meets fmt, with fmt's text TOLD by the authors' own Lean function (tested against real Go, not proved from fmt's source: count such statements apart). THE CARD IS WHAT COUNTS. Prove the row's statement (the work); the ties are given (YtolflieiipnndaaDoorTie.lean); close each card by the builder's one call (the guide's Derived/Test/ToyasCard.lean, 'card_holds'). Laid BY PROGRAM, IN A SANDBOX (cutbox-door.mjs). By AI agents, Wed Nov 11 2026. No macro, syntax, notation, axiom, sorry.
-/
import Derived.Test.YtolflieiipnndaaDoorRows
import GoSem.ClaimSeven
namespace Go.Proofs.YtolflieiipnndaaDoor
namespace Rows

/-- THE TIED CARD OF 'treenaillaw01.NatTold'. -/
def natToldCard : Claim7 := { stood := { row := natToldRow, standIns := [], harness := (true, "e5c0eed4f8b083d3095cedda6d35c708e5215cf317ee220a0e91cadd2ca768c9"), looks := true }, kinds := [], alts := [], laidByText := true, laidKinds := [.handle], laidTests := true, laidLooks := .later }
def NatToldCardSaid : Prop := Claim7.holds Tryd.pinned (.plain (OpenSpec.ofChange natToldSpec)) natToldCard

/-- THE SECOND FORM's CARD OF 'treenaillaw01.NatTold'. -/
def natToldUptoCard : Claim7 := { stood := { row := natToldUptoRow, standIns := [], harness := (true, "e5c0eed4f8b083d3095cedda6d35c708e5215cf317ee220a0e91cadd2ca768c9"), looks := true }, kinds := [], alts := [], laidByText := true, laidKinds := [.handle], laidTests := true, laidLooks := .later }
def NatToldUptoCardSaid : Prop := Claim7.holds Tryd.pinned (.plain (OpenSpec.upto natToldSpec)) natToldUptoCard
end Rows
end Go.Proofs.YtolflieiipnndaaDoor
