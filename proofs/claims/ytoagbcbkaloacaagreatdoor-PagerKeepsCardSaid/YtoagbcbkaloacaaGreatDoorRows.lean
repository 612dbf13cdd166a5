/-
  NARROWER THAN 'FOR EVERY INPUT', by the rows' own cells (each row's printed sentence says how): PagerFull: laid · PagerUndoes: laid · PagerKeeps: laid · PagerNone: laid.
  DERIVED. THE GIVEN ROWS OF THIS SEAT. 4 by the template 'for every input the law returns true; each argument reads behind the call as it read before'; 0 by the template 'total and deterministic' (their statements: YtoagbcbkaloacaaGreatDoorTotals.lean).
  GIVEN WITH THE SEED: the statements are not yours to turn. If you find one false, say at which input.
  Laid BY PROGRAM, IN A SANDBOX (cutbox-rows.mjs): the forced cells as the released guide's own fill.sh prints them over the translation ffc8c15cf603b1a2… (all of the seat's roots in one cut). By AI agents, Wed Nov 11 2026. No macro, syntax, notation, axiom, sorry.
-/
import Derived.Test.YtoagbcbkaloacaaGreatDoorChecked
import GoSem.PinnedTables
import GoSem.Claim
import GoSem.ClaimJoined
import GoSem.ClaimMapViews
import Derived.JoinedTies
import Derived.KernelRfl
namespace Go.Proofs.YtoagbcbkaloacaaGreatDoor
/- THE CELL 'sum', in the pinned program and in every row, IS THE sha256 OF THE DUMP (.gsa) THAT YtoagbcbkaloacaaGreatDoorProg.lean LOADS. Nothing in Lean hashes anything: it is a label: what it is worth is what the hold of that sum in a sandbox is worth. -/
noncomputable def Tryz.pinned : Pinned := { name := "ytoagbcbkaloacaagreatdoor", sum := "ffc8c15cf603b1a23eeef93724a739bd9e9a9ce5728f0b647609a01f404f3b9a", checked := Tryz.checked }
namespace Rows
def none {H : Type} : Left H := { results := [], args := [] }

/- WHAT THE LISTED PACKAGE-LEVEL VARIABLES READ AS WHEN THE CALL BEGINS. Each datum BY PROGRAM (the guide's laid-datum.mjs) off the statement by which the dump's own 'gosem.cut.vars' lays the variable. In a bare row this is a premise. The card (YtoagbcbkaloacaaGreatDoorCards.lean) ties it to the program's text. -/
def laid_unicode_utf8_acceptRanges {H : Type} : DataW H := .agg [.agg [.lit (.int .u8 128), .lit (.int .u8 191)], .agg [.lit (.int .u8 160), .lit (.int .u8 191)], .agg [.lit (.int .u8 128), .lit (.int .u8 159)], .agg [.lit (.int .u8 144), .lit (.int .u8 191)], .agg [.lit (.int .u8 128), .lit (.int .u8 143)], .agg [.lit (.int .u8 0), .lit (.int .u8 0)], .agg [.lit (.int .u8 0), .lit (.int .u8 0)], .agg [.lit (.int .u8 0), .lit (.int .u8 0)], .agg [.lit (.int .u8 0), .lit (.int .u8 0)], .agg [.lit (.int .u8 0), .lit (.int .u8 0)], .agg [.lit (.int .u8 0), .lit (.int .u8 0)], .agg [.lit (.int .u8 0), .lit (.int .u8 0)], .agg [.lit (.int .u8 0), .lit (.int .u8 0)], .agg [.lit (.int .u8 0), .lit (.int .u8 0)], .agg [.lit (.int .u8 0), .lit (.int .u8 0)], .agg [.lit (.int .u8 0), .lit (.int .u8 0)]]
/-- One of Go's own tables, pinned by name: the form's constant. -/
def laid_unicode_utf8_first : DataW Unit := Go.Pinned.utf8First

/-- 'arboretumlaw7.PagerFull': WHATEVER THE INPUT: true; the input reads as it did. -/
def pagerFullSpec : ChangeSpec := { name := "pagerFull", fn := fun _ => fun
  | [d1, d2] => { results := [.lit (.bool true)], args := [d1, d2] }
  | _ => none }
def pagerFullRow : OpenClaim := { program := "ytoagbcbkaloacaagreatdoor", sum := "ffc8c15cf603b1a23eeef93724a739bd9e9a9ce5728f0b647609a01f404f3b9a", func := "arboretum/arboretumlaw7.PagerFull", spec := "pagerFull", inPlace := ["internal/abi.NoEscape", "internal/bytealg.MakeNoZero", "internal/bytealg.IndexByteString", "internal/bytealg.IndexString"], unfollowed := true, recurses := true, named := ["unicode/utf8.first", "unicode/utf8.acceptRanges", "internal/bytealg.MaxLen"], apart := false, laid := [("unicode/utf8.acceptRanges", laid_unicode_utf8_acceptRanges), ("unicode/utf8.first", laid_unicode_utf8_first)] }
def PagerFullSaid : Prop := pagerFullRow.holds Tryz.pinned (OpenSpec.ofChange pagerFullSpec)

/-- ITS FALSE NEIGHBOUR: 'it returns false'. Refute it at one input. -/
def pagerFullWrong : ChangeSpec := { name := "pagerFull", fn := fun _ => fun
  | [d1, d2] => { results := [.lit (.bool false)], args := [d1, d2] }
  | _ => none }
def PagerFullWrongFalsely : Prop := pagerFullRow.holds Tryz.pinned (OpenSpec.ofChange pagerFullWrong)

/-- 'arboretumlaw7.PagerUndoes': WHATEVER THE INPUT: true; the input reads as it did. -/
def pagerUndoesSpec : ChangeSpec := { name := "pagerUndoes", fn := fun _ => fun
  | [d1, d2] => { results := [.lit (.bool true)], args := [d1, d2] }
  | _ => none }
def pagerUndoesRow : OpenClaim := { program := "ytoagbcbkaloacaagreatdoor", sum := "ffc8c15cf603b1a23eeef93724a739bd9e9a9ce5728f0b647609a01f404f3b9a", func := "arboretum/arboretumlaw7.PagerUndoes", spec := "pagerUndoes", inPlace := ["internal/abi.NoEscape", "internal/bytealg.MakeNoZero", "internal/bytealg.IndexByteString", "internal/bytealg.IndexString"], unfollowed := true, recurses := true, named := ["unicode/utf8.first", "unicode/utf8.acceptRanges", "internal/bytealg.MaxLen"], apart := false, laid := [("unicode/utf8.acceptRanges", laid_unicode_utf8_acceptRanges), ("unicode/utf8.first", laid_unicode_utf8_first)] }
def PagerUndoesSaid : Prop := pagerUndoesRow.holds Tryz.pinned (OpenSpec.ofChange pagerUndoesSpec)

/-- ITS FALSE NEIGHBOUR: 'it returns false'. Refute it at one input. -/
def pagerUndoesWrong : ChangeSpec := { name := "pagerUndoes", fn := fun _ => fun
  | [d1, d2] => { results := [.lit (.bool false)], args := [d1, d2] }
  | _ => none }
def PagerUndoesWrongFalsely : Prop := pagerUndoesRow.holds Tryz.pinned (OpenSpec.ofChange pagerUndoesWrong)

/-- 'arboretumlaw7.PagerKeeps': WHATEVER THE INPUT: true; the input reads as it did. -/
def pagerKeepsSpec : ChangeSpec := { name := "pagerKeeps", fn := fun _ => fun
  | [d1, d2, d3] => { results := [.lit (.bool true)], args := [d1, d2, d3] }
  | _ => none }
def pagerKeepsRow : OpenClaim := { program := "ytoagbcbkaloacaagreatdoor", sum := "ffc8c15cf603b1a23eeef93724a739bd9e9a9ce5728f0b647609a01f404f3b9a", func := "arboretum/arboretumlaw7.PagerKeeps", spec := "pagerKeeps", inPlace := ["internal/abi.NoEscape", "internal/bytealg.MakeNoZero", "internal/bytealg.IndexByteString", "internal/bytealg.IndexString"], unfollowed := true, recurses := true, named := ["unicode/utf8.first", "unicode/utf8.acceptRanges", "internal/bytealg.MaxLen"], apart := false, laid := [("unicode/utf8.acceptRanges", laid_unicode_utf8_acceptRanges), ("unicode/utf8.first", laid_unicode_utf8_first)] }
def PagerKeepsSaid : Prop := pagerKeepsRow.holds Tryz.pinned (OpenSpec.ofChange pagerKeepsSpec)

/-- ITS FALSE NEIGHBOUR: 'it returns false'. Refute it at one input. -/
def pagerKeepsWrong : ChangeSpec := { name := "pagerKeeps", fn := fun _ => fun
  | [d1, d2, d3] => { results := [.lit (.bool false)], args := [d1, d2, d3] }
  | _ => none }
def PagerKeepsWrongFalsely : Prop := pagerKeepsRow.holds Tryz.pinned (OpenSpec.ofChange pagerKeepsWrong)

/-- 'arboretumlaw7.PagerNone': WHATEVER THE INPUT: true; the input reads as it did. -/
def pagerNoneSpec : ChangeSpec := { name := "pagerNone", fn := fun _ => fun
  | [d1, d2] => { results := [.lit (.bool true)], args := [d1, d2] }
  | _ => none }
def pagerNoneRow : OpenClaim := { program := "ytoagbcbkaloacaagreatdoor", sum := "ffc8c15cf603b1a23eeef93724a739bd9e9a9ce5728f0b647609a01f404f3b9a", func := "arboretum/arboretumlaw7.PagerNone", spec := "pagerNone", inPlace := ["internal/abi.NoEscape", "internal/bytealg.MakeNoZero", "internal/bytealg.IndexByteString", "internal/bytealg.IndexString"], unfollowed := true, recurses := true, named := ["unicode/utf8.first", "unicode/utf8.acceptRanges", "internal/bytealg.MaxLen"], apart := false, laid := [("unicode/utf8.acceptRanges", laid_unicode_utf8_acceptRanges), ("unicode/utf8.first", laid_unicode_utf8_first)] }
def PagerNoneSaid : Prop := pagerNoneRow.holds Tryz.pinned (OpenSpec.ofChange pagerNoneSpec)

/-- ITS FALSE NEIGHBOUR: 'it returns false'. Refute it at one input. -/
def pagerNoneWrong : ChangeSpec := { name := "pagerNone", fn := fun _ => fun
  | [d1, d2] => { results := [.lit (.bool false)], args := [d1, d2] }
  | _ => none }
def PagerNoneWrongFalsely : Prop := pagerNoneRow.holds Tryz.pinned (OpenSpec.ofChange pagerNoneWrong)

/- THE SECOND FORM. 'bulk': how many values and letters a reading holds, each counted each time it is reached (what is shared counts as often as it is met; a slice's spare places count too). A statement '..UptoSaid' is the law's where the arguments, and the package variables that the reading takes, are together of bulk at most 1048576: NARROWER than '..Said'. Prove '..Said' where nothing that the law and all that it calls make is longer than what came in: it says more and counts as full. Else prove '..UptoSaid'. A law counts once. -/
mutual
def uptoBulk {H : Type} : DataW H → Nat
  | .lit (.string bytes) => bytes.length + 1
  | .lit _ => 1
  | .nil => 1
  | .ptr d => uptoBulk d + 1
  | .slice elems spare => uptoBulkAll elems + uptoBulkAll spare + 1
  | .agg parts => uptoBulkAll parts + 1
  | .iface _ d => uptoBulk d + 1
  | .map entries => uptoBulkEntries entries + 1
  | .held _ => 1
def uptoBulkAll {H : Type} : List (DataW H) → Nat
  | [] => 0
  | d :: r => uptoBulk d + uptoBulkAll r
def uptoBulkEntries {H : Type} : List (Lit × DataW H) → Nat
  | [] => 0
  | x :: r => uptoBulkEntry x + uptoBulkEntries r
def uptoBulkEntry {H : Type} : Lit × DataW H → Nat
  | (.string bytes, d) => bytes.length + uptoBulk d + 1
  | (_, d) => uptoBulk d + 1
 end
def uptoSmall : (H : Type) → List (DataW H) → Bool := fun _ ds => decide (uptoBulkAll ds ≤ 1048576)
def OpenSpec.upto (s : _root_.Go.ChangeSpec) : _root_.Go.OpenSpec := { _root_.Go.OpenSpec.ofChange s with cond := some uptoSmall }

/-- 'arboretumlaw7.PagerFull', WHERE WHAT IT READS IS OF BULK AT MOST 1048576: true; the input reads as it did. -/
def pagerFullUptoRow : OpenClaim := { program := "ytoagbcbkaloacaagreatdoor", sum := "ffc8c15cf603b1a23eeef93724a739bd9e9a9ce5728f0b647609a01f404f3b9a", func := "arboretum/arboretumlaw7.PagerFull", spec := "pagerFull", inPlace := ["internal/abi.NoEscape", "internal/bytealg.MakeNoZero", "internal/bytealg.IndexByteString", "internal/bytealg.IndexString"], unfollowed := true, recurses := true, named := ["unicode/utf8.first", "unicode/utf8.acceptRanges", "internal/bytealg.MaxLen"], apart := false, laid := [("unicode/utf8.acceptRanges", laid_unicode_utf8_acceptRanges), ("unicode/utf8.first", laid_unicode_utf8_first)], narrowed := true }
def PagerFullUptoSaid : Prop := pagerFullUptoRow.holds Tryz.pinned (OpenSpec.upto pagerFullSpec)

/-- 'arboretumlaw7.PagerUndoes', WHERE WHAT IT READS IS OF BULK AT MOST 1048576: true; the input reads as it did. -/
def pagerUndoesUptoRow : OpenClaim := { program := "ytoagbcbkaloacaagreatdoor", sum := "ffc8c15cf603b1a23eeef93724a739bd9e9a9ce5728f0b647609a01f404f3b9a", func := "arboretum/arboretumlaw7.PagerUndoes", spec := "pagerUndoes", inPlace := ["internal/abi.NoEscape", "internal/bytealg.MakeNoZero", "internal/bytealg.IndexByteString", "internal/bytealg.IndexString"], unfollowed := true, recurses := true, named := ["unicode/utf8.first", "unicode/utf8.acceptRanges", "internal/bytealg.MaxLen"], apart := false, laid := [("unicode/utf8.acceptRanges", laid_unicode_utf8_acceptRanges), ("unicode/utf8.first", laid_unicode_utf8_first)], narrowed := true }
def PagerUndoesUptoSaid : Prop := pagerUndoesUptoRow.holds Tryz.pinned (OpenSpec.upto pagerUndoesSpec)

/-- 'arboretumlaw7.PagerKeeps', WHERE WHAT IT READS IS OF BULK AT MOST 1048576: true; the input reads as it did. -/
def pagerKeepsUptoRow : OpenClaim := { program := "ytoagbcbkaloacaagreatdoor", sum := "ffc8c15cf603b1a23eeef93724a739bd9e9a9ce5728f0b647609a01f404f3b9a", func := "arboretum/arboretumlaw7.PagerKeeps", spec := "pagerKeeps", inPlace := ["internal/abi.NoEscape", "internal/bytealg.MakeNoZero", "internal/bytealg.IndexByteString", "internal/bytealg.IndexString"], unfollowed := true, recurses := true, named := ["unicode/utf8.first", "unicode/utf8.acceptRanges", "internal/bytealg.MaxLen"], apart := false, laid := [("unicode/utf8.acceptRanges", laid_unicode_utf8_acceptRanges), ("unicode/utf8.first", laid_unicode_utf8_first)], narrowed := true }
def PagerKeepsUptoSaid : Prop := pagerKeepsUptoRow.holds Tryz.pinned (OpenSpec.upto pagerKeepsSpec)

/-- 'arboretumlaw7.PagerNone', WHERE WHAT IT READS IS OF BULK AT MOST 1048576: true; the input reads as it did. -/
def pagerNoneUptoRow : OpenClaim := { program := "ytoagbcbkaloacaagreatdoor", sum := "ffc8c15cf603b1a23eeef93724a739bd9e9a9ce5728f0b647609a01f404f3b9a", func := "arboretum/arboretumlaw7.PagerNone", spec := "pagerNone", inPlace := ["internal/abi.NoEscape", "internal/bytealg.MakeNoZero", "internal/bytealg.IndexByteString", "internal/bytealg.IndexString"], unfollowed := true, recurses := true, named := ["unicode/utf8.first", "unicode/utf8.acceptRanges", "internal/bytealg.MaxLen"], apart := false, laid := [("unicode/utf8.acceptRanges", laid_unicode_utf8_acceptRanges), ("unicode/utf8.first", laid_unicode_utf8_first)], narrowed := true }
def PagerNoneUptoSaid : Prop := pagerNoneUptoRow.holds Tryz.pinned (OpenSpec.upto pagerNoneSpec)

end Rows
end Go.Proofs.YtoagbcbkaloacaaGreatDoor
