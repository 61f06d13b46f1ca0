/-
  DERIVED. GIVEN WITH THE SEED: THE CARDS: each row of YtacgammmpkibpaaDoorRows.lean that lists a variable, with what it lists TIED to the program's text (the seventh form; the later family's looks); each row that meets fmt, with fmt's text TOLD by the authors' own Lean function (tested against real Go, not proved from fmt's source: count such statements apart). THE CARD IS WHAT COUNTS. Prove the row's statement (the work); the ties are given (YtacgammmpkibpaaDoorTie.lean); close each card by the builder's one call (the guide's Derived/Test/ToyasCard.lean, 'card_holds'). Laid BY PROGRAM, IN A SANDBOX (cutbox-door.mjs). By AI agents, Wed Nov 11 2026. No macro, syntax, notation, axiom, sorry.
-/
import Derived.Test.YtacgammmpkibpaaDoorRows
import GoSem.ClaimSeven
namespace Go.Proofs.YtacgammmpkibpaaDoor
namespace Rows

/-- THE TIED CARD OF 'pursuivantlaw14.KeepBack'. -/
def keepBackCard : Claim7 := { stood := { row := keepBackRow, standIns := [], harness := (true, "2284ba68699ffb3c1ca29f682210048f839b2f3d1860c0b4923c98b8b2405e57"), looks := false }, kinds := [], alts := [], laidByText := true, laidKinds := [.data], laidTests := true, laidLooks := .later }
def KeepBackCardSaid : Prop := Claim7.holds Tryd.pinned (.plain (OpenSpec.ofChange keepBackSpec)) keepBackCard

/-- THE TIED CARD OF 'pursuivantlaw14.KeepRefused'. -/
def keepRefusedCard : Claim7 := { stood := { row := keepRefusedRow, standIns := [], harness := (true, "2284ba68699ffb3c1ca29f682210048f839b2f3d1860c0b4923c98b8b2405e57"), looks := false }, kinds := [], alts := [], laidByText := true, laidKinds := [.data], laidTests := true, laidLooks := .later }
def KeepRefusedCardSaid : Prop := Claim7.holds Tryd.pinned (.plain (OpenSpec.ofChange keepRefusedSpec)) keepRefusedCard

/-- THE TIED CARD OF 'pursuivantlaw14.KeepAmid'. -/
def keepAmidCard : Claim7 := { stood := { row := keepAmidRow, standIns := [], harness := (true, "2284ba68699ffb3c1ca29f682210048f839b2f3d1860c0b4923c98b8b2405e57"), looks := false }, kinds := [], alts := [], laidByText := true, laidKinds := [.data], laidTests := true, laidLooks := .later }
def KeepAmidCardSaid : Prop := Claim7.holds Tryd.pinned (.plain (OpenSpec.ofChange keepAmidSpec)) keepAmidCard

/-- THE SECOND FORM's CARD OF 'pursuivantlaw14.KeepBack'. -/
def keepBackUptoCard : Claim7 := { stood := { row := keepBackUptoRow, standIns := [], harness := (true, "2284ba68699ffb3c1ca29f682210048f839b2f3d1860c0b4923c98b8b2405e57"), looks := false }, kinds := [], alts := [], laidByText := true, laidKinds := [.data], laidTests := true, laidLooks := .later }
def KeepBackUptoCardSaid : Prop := Claim7.holds Tryd.pinned (.plain (OpenSpec.upto keepBackSpec)) keepBackUptoCard

/-- THE SECOND FORM's CARD OF 'pursuivantlaw14.KeepRefused'. -/
def keepRefusedUptoCard : Claim7 := { stood := { row := keepRefusedUptoRow, standIns := [], harness := (true, "2284ba68699ffb3c1ca29f682210048f839b2f3d1860c0b4923c98b8b2405e57"), looks := false }, kinds := [], alts := [], laidByText := true, laidKinds := [.data], laidTests := true, laidLooks := .later }
def KeepRefusedUptoCardSaid : Prop := Claim7.holds Tryd.pinned (.plain (OpenSpec.upto keepRefusedSpec)) keepRefusedUptoCard

/-- THE SECOND FORM's CARD OF 'pursuivantlaw14.KeepAmid'. -/
def keepAmidUptoCard : Claim7 := { stood := { row := keepAmidUptoRow, standIns := [], harness := (true, "2284ba68699ffb3c1ca29f682210048f839b2f3d1860c0b4923c98b8b2405e57"), looks := false }, kinds := [], alts := [], laidByText := true, laidKinds := [.data], laidTests := true, laidLooks := .later }
def KeepAmidUptoCardSaid : Prop := Claim7.holds Tryd.pinned (.plain (OpenSpec.upto keepAmidSpec)) keepAmidUptoCard
end Rows
end Go.Proofs.YtacgammmpkibpaaDoor
