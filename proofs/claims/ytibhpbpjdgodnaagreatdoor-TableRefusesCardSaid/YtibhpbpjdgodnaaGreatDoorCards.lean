/-
  DERIVED. GIVEN WITH THE SEED: THE CARDS: each row of YtibhpbpjdgodnaaGreatDoorRows.lean that lists a variable, with what it lists TIED to the program's text (the seventh form; the later family's looks); each row that meets fmt, with fmt's text TOLD by the authors' own Lean function (tested against real Go, not proved from fmt's source: count such statements apart). THE CARD IS WHAT COUNTS. Prove the row's statement (the work); the ties are given (YtibhpbpjdgodnaaGreatDoorTie.lean); close each card by the builder's one call (the guide's Derived/Test/ToyasCard.lean, 'card_holds'). Laid BY PROGRAM, IN A SANDBOX (cutbox-door.mjs). By AI agents, Wed Nov 11 2026. No macro, syntax, notation, axiom, sorry.
-/
import Derived.Test.YtibhpbpjdgodnaaGreatDoorRows
import GoSem.ClaimSeven
namespace Go.Proofs.YtibhpbpjdgodnaaGreatDoor
namespace Rows

/-- THE TIED CARD OF 'lazaretlaw10.StemAsks'. -/
def stemAsksCard : Claim7 := { stood := { row := stemAsksRow, standIns := [], harness := (true, "4d00b603e5458fd5e696a11a933e5f8a2308a5f632163560f122507c42d7dc71"), looks := false }, kinds := [], alts := [], laidByText := true, laidKinds := [.data, .data], laidTests := true, laidLooks := .later }
def StemAsksCardSaid : Prop := Claim7.holds Tryz.pinned (.plain (OpenSpec.ofChange stemAsksSpec)) stemAsksCard

/-- THE TIED CARD OF 'lazaretlaw10.StemRefuses'. -/
def stemRefusesCard : Claim7 := { stood := { row := stemRefusesRow, standIns := [], harness := (true, "4d00b603e5458fd5e696a11a933e5f8a2308a5f632163560f122507c42d7dc71"), looks := false }, kinds := [], alts := [], laidByText := true, laidKinds := [.data, .data], laidTests := true, laidLooks := .later }
def StemRefusesCardSaid : Prop := Claim7.holds Tryz.pinned (.plain (OpenSpec.ofChange stemRefusesSpec)) stemRefusesCard

/-- THE TIED CARD OF 'lazaretlaw11.FlowRefuses'. -/
def flowRefusesCard : Claim7 := { stood := { row := flowRefusesRow, standIns := [], harness := (true, "4d00b603e5458fd5e696a11a933e5f8a2308a5f632163560f122507c42d7dc71"), looks := false }, kinds := [], alts := [], laidByText := true, laidKinds := [.data, .data], laidTests := true, laidLooks := .later }
def FlowRefusesCardSaid : Prop := Claim7.holds Tryz.pinned (.plain (OpenSpec.ofChange flowRefusesSpec)) flowRefusesCard

/-- THE TIED CARD OF 'lazaretlaw14.TableRefuses'. -/
def tableRefusesCard : Claim7 := { stood := { row := tableRefusesRow, standIns := [], harness := (true, "4d00b603e5458fd5e696a11a933e5f8a2308a5f632163560f122507c42d7dc71"), looks := false }, kinds := [], alts := [], laidByText := true, laidKinds := [.data, .data], laidTests := true, laidLooks := .later }
def TableRefusesCardSaid : Prop := Claim7.holds Tryz.pinned (.plain (OpenSpec.ofChange tableRefusesSpec)) tableRefusesCard

/-- THE SECOND FORM's CARD OF 'lazaretlaw10.StemAsks'. -/
def stemAsksUptoCard : Claim7 := { stood := { row := stemAsksUptoRow, standIns := [], harness := (true, "4d00b603e5458fd5e696a11a933e5f8a2308a5f632163560f122507c42d7dc71"), looks := false }, kinds := [], alts := [], laidByText := true, laidKinds := [.data, .data], laidTests := true, laidLooks := .later }
def StemAsksUptoCardSaid : Prop := Claim7.holds Tryz.pinned (.plain (OpenSpec.upto stemAsksSpec)) stemAsksUptoCard

/-- THE SECOND FORM's CARD OF 'lazaretlaw10.StemRefuses'. -/
def stemRefusesUptoCard : Claim7 := { stood := { row := stemRefusesUptoRow, standIns := [], harness := (true, "4d00b603e5458fd5e696a11a933e5f8a2308a5f632163560f122507c42d7dc71"), looks := false }, kinds := [], alts := [], laidByText := true, laidKinds := [.data, .data], laidTests := true, laidLooks := .later }
def StemRefusesUptoCardSaid : Prop := Claim7.holds Tryz.pinned (.plain (OpenSpec.upto stemRefusesSpec)) stemRefusesUptoCard

/-- THE SECOND FORM's CARD OF 'lazaretlaw11.FlowRefuses'. -/
def flowRefusesUptoCard : Claim7 := { stood := { row := flowRefusesUptoRow, standIns := [], harness := (true, "4d00b603e5458fd5e696a11a933e5f8a2308a5f632163560f122507c42d7dc71"), looks := false }, kinds := [], alts := [], laidByText := true, laidKinds := [.data, .data], laidTests := true, laidLooks := .later }
def FlowRefusesUptoCardSaid : Prop := Claim7.holds Tryz.pinned (.plain (OpenSpec.upto flowRefusesSpec)) flowRefusesUptoCard

/-- THE SECOND FORM's CARD OF 'lazaretlaw14.TableRefuses'. -/
def tableRefusesUptoCard : Claim7 := { stood := { row := tableRefusesUptoRow, standIns := [], harness := (true, "4d00b603e5458fd5e696a11a933e5f8a2308a5f632163560f122507c42d7dc71"), looks := false }, kinds := [], alts := [], laidByText := true, laidKinds := [.data, .data], laidTests := true, laidLooks := .later }
def TableRefusesUptoCardSaid : Prop := Claim7.holds Tryz.pinned (.plain (OpenSpec.upto tableRefusesSpec)) tableRefusesUptoCard
end Rows
end Go.Proofs.YtibhpbpjdgodnaaGreatDoor
