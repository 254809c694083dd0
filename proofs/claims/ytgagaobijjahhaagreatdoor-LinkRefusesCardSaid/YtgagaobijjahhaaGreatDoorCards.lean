/-
  DERIVED. GIVEN WITH THE SEED: THE CARDS: each row of YtgagaobijjahhaaGreatDoorRows.lean that lists a variable, with what it lists TIED to the program's text (the seventh form; the later family's looks); each row that meets fmt, with fmt's text TOLD by the authors' own Lean function (tested against real Go, not proved from fmt's source: count such statements apart). THE CARD IS WHAT COUNTS. Prove the row's statement (the work); the ties are given (YtgagaobijjahhaaGreatDoorTie.lean); close each card by the builder's one call (the guide's Derived/Test/ToyasCard.lean, 'card_holds'). Laid BY PROGRAM, IN A SANDBOX (cutbox-door.mjs). By AI agents, Wed Nov 11 2026. No macro, syntax, notation, axiom, sorry.
-/
import Derived.Test.YtgagaobijjahhaaGreatDoorRows
import GoSem.ClaimSeven
namespace Go.Proofs.YtgagaobijjahhaaGreatDoor
namespace Rows

/-- THE TIED CARD OF 'lazaretlaw18.LinkChecks'. -/
def linkChecksCard : Claim7 := { stood := { row := linkChecksRow, standIns := [], harness := (true, "98c74037fc06967be59722c76e7555cd60876cf0027e569a7c2cfae6f63f328d"), looks := false }, kinds := [], alts := [], laidByText := true, laidKinds := [.data, .data], laidTests := true, laidLooks := .later }
def LinkChecksCardSaid : Prop := Claim7.holds Tryz.pinned (.plain (OpenSpec.ofChange linkChecksSpec)) linkChecksCard

/-- THE TIED CARD OF 'lazaretlaw18.LinkRefuses'. -/
def linkRefusesCard : Claim7 := { stood := { row := linkRefusesRow, standIns := [], harness := (true, "98c74037fc06967be59722c76e7555cd60876cf0027e569a7c2cfae6f63f328d"), looks := false }, kinds := [], alts := [], laidByText := true, laidKinds := [.data, .data], laidTests := true, laidLooks := .later }
def LinkRefusesCardSaid : Prop := Claim7.holds Tryz.pinned (.plain (OpenSpec.ofChange linkRefusesSpec)) linkRefusesCard

/-- THE SECOND FORM's CARD OF 'lazaretlaw18.LinkChecks'. -/
def linkChecksUptoCard : Claim7 := { stood := { row := linkChecksUptoRow, standIns := [], harness := (true, "98c74037fc06967be59722c76e7555cd60876cf0027e569a7c2cfae6f63f328d"), looks := false }, kinds := [], alts := [], laidByText := true, laidKinds := [.data, .data], laidTests := true, laidLooks := .later }
def LinkChecksUptoCardSaid : Prop := Claim7.holds Tryz.pinned (.plain (OpenSpec.upto linkChecksSpec)) linkChecksUptoCard

/-- THE SECOND FORM's CARD OF 'lazaretlaw18.LinkRefuses'. -/
def linkRefusesUptoCard : Claim7 := { stood := { row := linkRefusesUptoRow, standIns := [], harness := (true, "98c74037fc06967be59722c76e7555cd60876cf0027e569a7c2cfae6f63f328d"), looks := false }, kinds := [], alts := [], laidByText := true, laidKinds := [.data, .data], laidTests := true, laidLooks := .later }
def LinkRefusesUptoCardSaid : Prop := Claim7.holds Tryz.pinned (.plain (OpenSpec.upto linkRefusesSpec)) linkRefusesUptoCard
end Rows
end Go.Proofs.YtgagaobijjahhaaGreatDoor
