/-
  DERIVED. GIVEN WITH THE SEED: THE CARDS: each row of YtpoiopjggmhnjaaDoorRows.lean that lists a variable, with what it lists TIED to the program's text (the seventh form; the later family's looks); each row that meets fmt, with fmt's text TOLD by the authors' own Lean function (tested against real Go, not proved from fmt's source: count such statements apart). THE CARD IS WHAT COUNTS. Prove the row's statement (the work); the ties are given (YtpoiopjggmhnjaaDoorTie.lean); close each card by the builder's one call (the guide's Derived/Test/ToyasCard.lean, 'card_holds'). Laid BY PROGRAM, IN A SANDBOX (cutbox-door.mjs). By AI agents, Wed Nov 11 2026. No macro, syntax, notation, axiom, sorry.
-/
import Derived.Test.YtpoiopjggmhnjaaDoorRows
import GoSem.ClaimSeven
namespace Go.Proofs.YtpoiopjggmhnjaaDoor
namespace Rows

/-- THE TIED CARD OF 'arboretumlaw5.MetaTells'. -/
def metaTellsCard : Claim7 := { stood := { row := metaTellsRow, standIns := [], harness := (true, "9887b42ab985e102590ea0d522e10bdd0d8a457b08073fdec9ec07661df23bf4"), looks := false }, kinds := [], alts := [], laidByText := true, laidKinds := [.data, .pinned], laidTests := true, laidLooks := .later }
def MetaTellsCardSaid : Prop := Claim7.holds Tryd.pinned (.plain (OpenSpec.ofChange metaTellsSpec)) metaTellsCard

/-- THE TIED CARD OF 'arboretumlaw5.MetaNext'. -/
def metaNextCard : Claim7 := { stood := { row := metaNextRow, standIns := [], harness := (true, "9887b42ab985e102590ea0d522e10bdd0d8a457b08073fdec9ec07661df23bf4"), looks := false }, kinds := [], alts := [], laidByText := true, laidKinds := [.data, .pinned], laidTests := true, laidLooks := .later }
def MetaNextCardSaid : Prop := Claim7.holds Tryd.pinned (.plain (OpenSpec.ofChange metaNextSpec)) metaNextCard

/-- THE TIED CARD OF 'arboretumlaw5.MetaTorn'. -/
def metaTornCard : Claim7 := { stood := { row := metaTornRow, standIns := [], harness := (true, "9887b42ab985e102590ea0d522e10bdd0d8a457b08073fdec9ec07661df23bf4"), looks := false }, kinds := [], alts := [], laidByText := true, laidKinds := [.data, .pinned], laidTests := true, laidLooks := .later }
def MetaTornCardSaid : Prop := Claim7.holds Tryd.pinned (.plain (OpenSpec.ofChange metaTornSpec)) metaTornCard

/-- THE SECOND FORM's CARD OF 'arboretumlaw5.MetaTells'. -/
def metaTellsUptoCard : Claim7 := { stood := { row := metaTellsUptoRow, standIns := [], harness := (true, "9887b42ab985e102590ea0d522e10bdd0d8a457b08073fdec9ec07661df23bf4"), looks := false }, kinds := [], alts := [], laidByText := true, laidKinds := [.data, .pinned], laidTests := true, laidLooks := .later }
def MetaTellsUptoCardSaid : Prop := Claim7.holds Tryd.pinned (.plain (OpenSpec.upto metaTellsSpec)) metaTellsUptoCard

/-- THE SECOND FORM's CARD OF 'arboretumlaw5.MetaNext'. -/
def metaNextUptoCard : Claim7 := { stood := { row := metaNextUptoRow, standIns := [], harness := (true, "9887b42ab985e102590ea0d522e10bdd0d8a457b08073fdec9ec07661df23bf4"), looks := false }, kinds := [], alts := [], laidByText := true, laidKinds := [.data, .pinned], laidTests := true, laidLooks := .later }
def MetaNextUptoCardSaid : Prop := Claim7.holds Tryd.pinned (.plain (OpenSpec.upto metaNextSpec)) metaNextUptoCard

/-- THE SECOND FORM's CARD OF 'arboretumlaw5.MetaTorn'. -/
def metaTornUptoCard : Claim7 := { stood := { row := metaTornUptoRow, standIns := [], harness := (true, "9887b42ab985e102590ea0d522e10bdd0d8a457b08073fdec9ec07661df23bf4"), looks := false }, kinds := [], alts := [], laidByText := true, laidKinds := [.data, .pinned], laidTests := true, laidLooks := .later }
def MetaTornUptoCardSaid : Prop := Claim7.holds Tryd.pinned (.plain (OpenSpec.upto metaTornSpec)) metaTornUptoCard
end Rows
end Go.Proofs.YtpoiopjggmhnjaaDoor
