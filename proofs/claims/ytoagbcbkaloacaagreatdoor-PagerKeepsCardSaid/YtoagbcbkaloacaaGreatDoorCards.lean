/-
  DERIVED. GIVEN WITH THE SEED: THE CARDS: each row of YtoagbcbkaloacaaGreatDoorRows.lean that lists a variable, with what it lists TIED to the program's text (the seventh form; the later family's looks); each row that meets fmt, with fmt's text TOLD by the authors' own Lean function (tested against real Go, not proved from fmt's source: count such statements apart). THE CARD IS WHAT COUNTS. Prove the row's statement (the work); the ties are given (YtoagbcbkaloacaaGreatDoorTie.lean); close each card by the builder's one call (the guide's Derived/Test/ToyasCard.lean, 'card_holds'). Laid BY PROGRAM, IN A SANDBOX (cutbox-door.mjs). By AI agents, Wed Nov 11 2026. No macro, syntax, notation, axiom, sorry.
-/
import Derived.Test.YtoagbcbkaloacaaGreatDoorRows
import GoSem.ClaimSeven
namespace Go.Proofs.YtoagbcbkaloacaaGreatDoor
namespace Rows

/-- THE TIED CARD OF 'arboretumlaw7.PagerFull'. -/
def pagerFullCard : Claim7 := { stood := { row := pagerFullRow, standIns := [], harness := (true, "8b5236769344abefeccf3a5ae979b23fa71638424e548e18c3660877d5cdc533"), looks := true }, kinds := [], alts := [], laidByText := true, laidKinds := [.data, .pinned], laidTests := true, laidLooks := .later }
def PagerFullCardSaid : Prop := Claim7.holds Tryz.pinned (.plain (OpenSpec.ofChange pagerFullSpec)) pagerFullCard

/-- THE TIED CARD OF 'arboretumlaw7.PagerUndoes'. -/
def pagerUndoesCard : Claim7 := { stood := { row := pagerUndoesRow, standIns := [], harness := (true, "8b5236769344abefeccf3a5ae979b23fa71638424e548e18c3660877d5cdc533"), looks := true }, kinds := [], alts := [], laidByText := true, laidKinds := [.data, .pinned], laidTests := true, laidLooks := .later }
def PagerUndoesCardSaid : Prop := Claim7.holds Tryz.pinned (.plain (OpenSpec.ofChange pagerUndoesSpec)) pagerUndoesCard

/-- THE TIED CARD OF 'arboretumlaw7.PagerKeeps'. -/
def pagerKeepsCard : Claim7 := { stood := { row := pagerKeepsRow, standIns := [], harness := (true, "8b5236769344abefeccf3a5ae979b23fa71638424e548e18c3660877d5cdc533"), looks := true }, kinds := [], alts := [], laidByText := true, laidKinds := [.data, .pinned], laidTests := true, laidLooks := .later }
def PagerKeepsCardSaid : Prop := Claim7.holds Tryz.pinned (.plain (OpenSpec.ofChange pagerKeepsSpec)) pagerKeepsCard

/-- THE TIED CARD OF 'arboretumlaw7.PagerNone'. -/
def pagerNoneCard : Claim7 := { stood := { row := pagerNoneRow, standIns := [], harness := (true, "8b5236769344abefeccf3a5ae979b23fa71638424e548e18c3660877d5cdc533"), looks := true }, kinds := [], alts := [], laidByText := true, laidKinds := [.data, .pinned], laidTests := true, laidLooks := .later }
def PagerNoneCardSaid : Prop := Claim7.holds Tryz.pinned (.plain (OpenSpec.ofChange pagerNoneSpec)) pagerNoneCard

/-- THE SECOND FORM's CARD OF 'arboretumlaw7.PagerFull'. -/
def pagerFullUptoCard : Claim7 := { stood := { row := pagerFullUptoRow, standIns := [], harness := (true, "8b5236769344abefeccf3a5ae979b23fa71638424e548e18c3660877d5cdc533"), looks := true }, kinds := [], alts := [], laidByText := true, laidKinds := [.data, .pinned], laidTests := true, laidLooks := .later }
def PagerFullUptoCardSaid : Prop := Claim7.holds Tryz.pinned (.plain (OpenSpec.upto pagerFullSpec)) pagerFullUptoCard

/-- THE SECOND FORM's CARD OF 'arboretumlaw7.PagerUndoes'. -/
def pagerUndoesUptoCard : Claim7 := { stood := { row := pagerUndoesUptoRow, standIns := [], harness := (true, "8b5236769344abefeccf3a5ae979b23fa71638424e548e18c3660877d5cdc533"), looks := true }, kinds := [], alts := [], laidByText := true, laidKinds := [.data, .pinned], laidTests := true, laidLooks := .later }
def PagerUndoesUptoCardSaid : Prop := Claim7.holds Tryz.pinned (.plain (OpenSpec.upto pagerUndoesSpec)) pagerUndoesUptoCard

/-- THE SECOND FORM's CARD OF 'arboretumlaw7.PagerKeeps'. -/
def pagerKeepsUptoCard : Claim7 := { stood := { row := pagerKeepsUptoRow, standIns := [], harness := (true, "8b5236769344abefeccf3a5ae979b23fa71638424e548e18c3660877d5cdc533"), looks := true }, kinds := [], alts := [], laidByText := true, laidKinds := [.data, .pinned], laidTests := true, laidLooks := .later }
def PagerKeepsUptoCardSaid : Prop := Claim7.holds Tryz.pinned (.plain (OpenSpec.upto pagerKeepsSpec)) pagerKeepsUptoCard

/-- THE SECOND FORM's CARD OF 'arboretumlaw7.PagerNone'. -/
def pagerNoneUptoCard : Claim7 := { stood := { row := pagerNoneUptoRow, standIns := [], harness := (true, "8b5236769344abefeccf3a5ae979b23fa71638424e548e18c3660877d5cdc533"), looks := true }, kinds := [], alts := [], laidByText := true, laidKinds := [.data, .pinned], laidTests := true, laidLooks := .later }
def PagerNoneUptoCardSaid : Prop := Claim7.holds Tryz.pinned (.plain (OpenSpec.upto pagerNoneSpec)) pagerNoneUptoCard
end Rows
end Go.Proofs.YtoagbcbkaloacaaGreatDoor
