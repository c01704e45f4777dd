/-
  DERIVED. GIVEN WITH THE SEED: THE CARDS: each row of YtkmlppeligdbaaaDoorRows.lean that lists a variable, with what it lists TIED to the program's text (the seventh form; the later family's looks); each row that meets fmt, with fmt's text TOLD by the authors' own Lean function (tested against real Go, not proved from fmt's source: count such statements apart). THE CARD IS WHAT COUNTS. Prove the row's statement (the work); the ties are given (YtkmlppeligdbaaaDoorTie.lean); close each card by the builder's one call (the guide's Derived/Test/ToyasCard.lean, 'card_holds'). Laid BY PROGRAM, IN A SANDBOX (cutbox-door.mjs). By AI agents, Wed Nov 11 2026. No macro, syntax, notation, axiom, sorry.
-/
import Derived.Test.YtkmlppeligdbaaaDoorRows
import GoSem.ClaimSeven
namespace Go.Proofs.YtkmlppeligdbaaaDoor
namespace Rows

/-- THE TIED CARD OF 'seneschallaw08.TwinPower'. -/
def twinPowerCard : Claim7 := { stood := { row := twinPowerRow, standIns := [], harness := (true, "3efb5c8f3246d35c7b383cbb059fe7f2067928a77a3010facd6e77870d112066"), looks := false }, kinds := [], alts := [], laidByText := true, laidKinds := [.data, .pinned], laidTests := true, laidLooks := .later }
def TwinPowerCardSaid : Prop := Claim7.holds Tryd.pinned (.plain (OpenSpec.ofChange twinPowerSpec)) twinPowerCard

/-- THE SECOND FORM's CARD OF 'seneschallaw08.TwinPower'. -/
def twinPowerUptoCard : Claim7 := { stood := { row := twinPowerUptoRow, standIns := [], harness := (true, "3efb5c8f3246d35c7b383cbb059fe7f2067928a77a3010facd6e77870d112066"), looks := false }, kinds := [], alts := [], laidByText := true, laidKinds := [.data, .pinned], laidTests := true, laidLooks := .later }
def TwinPowerUptoCardSaid : Prop := Claim7.holds Tryd.pinned (.plain (OpenSpec.upto twinPowerSpec)) twinPowerUptoCard
end Rows
end Go.Proofs.YtkmlppeligdbaaaDoor
