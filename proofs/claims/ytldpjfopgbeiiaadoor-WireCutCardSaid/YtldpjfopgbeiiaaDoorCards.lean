/-
  DERIVED. GIVEN WITH THE SEED: THE CARDS: each row of YtldpjfopgbeiiaaDoorRows.lean that lists a variable, with what it lists TIED to the program's text (the seventh form; the later family's looks); each row that meets fmt, with fmt's text TOLD by the authors' own Lean function (tested against real Go, not proved from fmt's source: count such statements apart). THE CARD IS WHAT COUNTS. Prove the row's statement (the work); the ties are given (YtldpjfopgbeiiaaDoorTie.lean); close each card by the builder's one call (the guide's Derived/Test/ToyasCard.lean, 'card_holds'). Laid BY PROGRAM, IN A SANDBOX (cutbox-door.mjs). By AI agents, Wed Nov 11 2026. No macro, syntax, notation, axiom, sorry.
-/
import Derived.Test.YtldpjfopgbeiiaaDoorRows
import GoSem.ClaimSeven
namespace Go.Proofs.YtldpjfopgbeiiaaDoor
namespace Rows

/-- THE TIED CARD OF 'clerestorylaw21.WireRefuses'. -/
def wireRefusesCard : Claim7 := { stood := { row := wireRefusesRow, standIns := [], harness := (true, "a0540003943e4ce48dc1b73b1dcac638270a83da4a8202913963631da2a1b155"), looks := false }, kinds := [], alts := [], laidByText := true, laidKinds := [.data, .pinned], laidTests := true, laidLooks := .later }
def WireRefusesCardSaid : Prop := Claim7.holds Tryd.pinned (.plain (OpenSpec.ofChange wireRefusesSpec)) wireRefusesCard

/-- THE TIED CARD OF 'clerestorylaw21.WireBack'. -/
def wireBackCard : Claim7 := { stood := { row := wireBackRow, standIns := [], harness := (true, "a0540003943e4ce48dc1b73b1dcac638270a83da4a8202913963631da2a1b155"), looks := false }, kinds := [], alts := [], laidByText := true, laidKinds := [.data, .pinned], laidTests := true, laidLooks := .later }
def WireBackCardSaid : Prop := Claim7.holds Tryd.pinned (.plain (OpenSpec.ofChange wireBackSpec)) wireBackCard

/-- THE TIED CARD OF 'clerestorylaw21.WireCut'. -/
def wireCutCard : Claim7 := { stood := { row := wireCutRow, standIns := [], harness := (true, "a0540003943e4ce48dc1b73b1dcac638270a83da4a8202913963631da2a1b155"), looks := false }, kinds := [], alts := [], laidByText := true, laidKinds := [.data, .pinned], laidTests := true, laidLooks := .later }
def WireCutCardSaid : Prop := Claim7.holds Tryd.pinned (.plain (OpenSpec.ofChange wireCutSpec)) wireCutCard

/-- THE SECOND FORM's CARD OF 'clerestorylaw21.WireRefuses'. -/
def wireRefusesUptoCard : Claim7 := { stood := { row := wireRefusesUptoRow, standIns := [], harness := (true, "a0540003943e4ce48dc1b73b1dcac638270a83da4a8202913963631da2a1b155"), looks := false }, kinds := [], alts := [], laidByText := true, laidKinds := [.data, .pinned], laidTests := true, laidLooks := .later }
def WireRefusesUptoCardSaid : Prop := Claim7.holds Tryd.pinned (.plain (OpenSpec.upto wireRefusesSpec)) wireRefusesUptoCard

/-- THE SECOND FORM's CARD OF 'clerestorylaw21.WireBack'. -/
def wireBackUptoCard : Claim7 := { stood := { row := wireBackUptoRow, standIns := [], harness := (true, "a0540003943e4ce48dc1b73b1dcac638270a83da4a8202913963631da2a1b155"), looks := false }, kinds := [], alts := [], laidByText := true, laidKinds := [.data, .pinned], laidTests := true, laidLooks := .later }
def WireBackUptoCardSaid : Prop := Claim7.holds Tryd.pinned (.plain (OpenSpec.upto wireBackSpec)) wireBackUptoCard

/-- THE SECOND FORM's CARD OF 'clerestorylaw21.WireCut'. -/
def wireCutUptoCard : Claim7 := { stood := { row := wireCutUptoRow, standIns := [], harness := (true, "a0540003943e4ce48dc1b73b1dcac638270a83da4a8202913963631da2a1b155"), looks := false }, kinds := [], alts := [], laidByText := true, laidKinds := [.data, .pinned], laidTests := true, laidLooks := .later }
def WireCutUptoCardSaid : Prop := Claim7.holds Tryd.pinned (.plain (OpenSpec.upto wireCutSpec)) wireCutUptoCard
end Rows
end Go.Proofs.YtldpjfopgbeiiaaDoor
