/-
  DERIVED. GIVEN WITH THE SEED: THE CARDS: each row of YtieklgglcjdieaaDoorRows.lean that lists a variable, with what it lists TIED to the program's text (the seventh form; the later family's looks); each row that meets fmt, with fmt's text TOLD by the authors' own Lean function (tested against real Go, not proved from fmt's source: count such statements apart). THE CARD IS WHAT COUNTS. Prove the row's statement (the work); the ties are given (YtieklgglcjdieaaDoorTie.lean); close each card by the builder's one call (the guide's Derived/Test/ToyasCard.lean, 'card_holds'). Laid BY PROGRAM, IN A SANDBOX (cutbox-door.mjs). By AI agents, Wed Nov 11 2026. No macro, syntax, notation, axiom, sorry.
-/
import Derived.Test.YtieklgglcjdieaaDoorRows
import GoSem.ClaimSeven
namespace Go.Proofs.YtieklgglcjdieaaDoor
namespace Rows

/-- THE TIED CARD OF 'arboretumlaw4.PageTells'. -/
def pageTellsCard : Claim7 := { stood := { row := pageTellsRow, standIns := [], harness := (true, "f1e8ab519d9fd1f43247c5557e3784fbc050b8113f23f7571227f8940c3b81c0"), looks := false }, kinds := [], alts := [], laidByText := true, laidKinds := [.data, .pinned], laidTests := true, laidLooks := .later }
def PageTellsCardSaid : Prop := Claim7.holds Tryd.pinned (.plain (OpenSpec.ofChange pageTellsSpec)) pageTellsCard

/-- THE TIED CARD OF 'arboretumlaw4.PageBack'. -/
def pageBackCard : Claim7 := { stood := { row := pageBackRow, standIns := [], harness := (true, "f1e8ab519d9fd1f43247c5557e3784fbc050b8113f23f7571227f8940c3b81c0"), looks := false }, kinds := [], alts := [], laidByText := true, laidKinds := [.data, .pinned], laidTests := true, laidLooks := .later }
def PageBackCardSaid : Prop := Claim7.holds Tryd.pinned (.plain (OpenSpec.ofChange pageBackSpec)) pageBackCard

/-- THE TIED CARD OF 'arboretumlaw4.PageBounds'. -/
def pageBoundsCard : Claim7 := { stood := { row := pageBoundsRow, standIns := [], harness := (true, "f1e8ab519d9fd1f43247c5557e3784fbc050b8113f23f7571227f8940c3b81c0"), looks := false }, kinds := [], alts := [], laidByText := true, laidKinds := [.data, .pinned], laidTests := true, laidLooks := .later }
def PageBoundsCardSaid : Prop := Claim7.holds Tryd.pinned (.plain (OpenSpec.ofChange pageBoundsSpec)) pageBoundsCard

/-- THE SECOND FORM's CARD OF 'arboretumlaw4.PageTells'. -/
def pageTellsUptoCard : Claim7 := { stood := { row := pageTellsUptoRow, standIns := [], harness := (true, "f1e8ab519d9fd1f43247c5557e3784fbc050b8113f23f7571227f8940c3b81c0"), looks := false }, kinds := [], alts := [], laidByText := true, laidKinds := [.data, .pinned], laidTests := true, laidLooks := .later }
def PageTellsUptoCardSaid : Prop := Claim7.holds Tryd.pinned (.plain (OpenSpec.upto pageTellsSpec)) pageTellsUptoCard

/-- THE SECOND FORM's CARD OF 'arboretumlaw4.PageBack'. -/
def pageBackUptoCard : Claim7 := { stood := { row := pageBackUptoRow, standIns := [], harness := (true, "f1e8ab519d9fd1f43247c5557e3784fbc050b8113f23f7571227f8940c3b81c0"), looks := false }, kinds := [], alts := [], laidByText := true, laidKinds := [.data, .pinned], laidTests := true, laidLooks := .later }
def PageBackUptoCardSaid : Prop := Claim7.holds Tryd.pinned (.plain (OpenSpec.upto pageBackSpec)) pageBackUptoCard

/-- THE SECOND FORM's CARD OF 'arboretumlaw4.PageBounds'. -/
def pageBoundsUptoCard : Claim7 := { stood := { row := pageBoundsUptoRow, standIns := [], harness := (true, "f1e8ab519d9fd1f43247c5557e3784fbc050b8113f23f7571227f8940c3b81c0"), looks := false }, kinds := [], alts := [], laidByText := true, laidKinds := [.data, .pinned], laidTests := true, laidLooks := .later }
def PageBoundsUptoCardSaid : Prop := Claim7.holds Tryd.pinned (.plain (OpenSpec.upto pageBoundsSpec)) pageBoundsUptoCard
end Rows
end Go.Proofs.YtieklgglcjdieaaDoor
