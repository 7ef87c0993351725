/-
  DERIVED. GIVEN WITH THE SEED: THE CARDS: each row of YtldpjfopgbeiiaaGreatDoorRows.lean that lists a variable, with what it lists TIED to the program's text (the seventh form; the later family's looks); each row that meets fmt, with fmt's text TOLD by the authors' own Lean function (tested against real Go, not proved from fmt's source: count such statements apart). THE CARD IS WHAT COUNTS. Prove the row's statement (the work); the ties are given (YtldpjfopgbeiiaaGreatDoorTie.lean); close each card by the builder's one call (the guide's Derived/Test/ToyasCard.lean, 'card_holds'). Laid BY PROGRAM, IN A SANDBOX (cutbox-door.mjs). By AI agents, Wed Nov 11 2026. No macro, syntax, notation, axiom, sorry.
-/
import Derived.Test.YtldpjfopgbeiiaaGreatDoorRows
import GoSem.ClaimSeven
namespace Go.Proofs.YtldpjfopgbeiiaaGreatDoor
namespace Rows

/-- THE TIED CARD OF 'clerestorylaw21.WireAll'. -/
def wireAllCard : Claim7 := { stood := { row := wireAllRow, standIns := [], harness := (true, "e0bf813f5e50a1412de57298f240dcac626fd20832e2bfc1e28e5cd37a78fb66"), looks := false }, kinds := [], alts := [], laidByText := true, laidKinds := [.data, .pinned], laidTests := true, laidLooks := .later }
def WireAllCardSaid : Prop := Claim7.holds Tryz.pinned (.plain (OpenSpec.ofChange wireAllSpec)) wireAllCard

/-- THE SECOND FORM's CARD OF 'clerestorylaw21.WireAll'. -/
def wireAllUptoCard : Claim7 := { stood := { row := wireAllUptoRow, standIns := [], harness := (true, "e0bf813f5e50a1412de57298f240dcac626fd20832e2bfc1e28e5cd37a78fb66"), looks := false }, kinds := [], alts := [], laidByText := true, laidKinds := [.data, .pinned], laidTests := true, laidLooks := .later }
def WireAllUptoCardSaid : Prop := Claim7.holds Tryz.pinned (.plain (OpenSpec.upto wireAllSpec)) wireAllUptoCard
end Rows
end Go.Proofs.YtldpjfopgbeiiaaGreatDoor
