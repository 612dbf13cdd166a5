/-
  No cell of these rows narrows 'for every input' (looked for: loops, veiled, ifaces, maps, wideKeys, modest, calm, conditions, laid).
  DERIVED. THE GIVEN ROWS OF THIS SEAT. 6 by the template 'for every input the law returns true; each argument reads behind the call as it read before'; 0 by the template 'total and deterministic' (their statements: YtahjhhmhgjkheaaTotals.lean).
  GIVEN WITH THE SEED: the statements are not yours to turn. If you find one false, say at which input.
  Laid BY PROGRAM, IN A SANDBOX (cutbox-rows.mjs): the forced cells as the released guide's own fill.sh prints them over the translation 2b443740d1d34bde… (all of the seat's roots in one cut). By AI agents, Wed Nov 11 2026. No macro, syntax, notation, axiom, sorry.
-/
import Derived.Test.YtahjhhmhgjkheaaChecked
import GoSem.Claim
import GoSem.ClaimJoined
import GoSem.ClaimMapViews
import Derived.JoinedTies
import Derived.KernelRfl
namespace Go.Proofs.Ytahjhhmhgjkheaa
/- THE CELL 'sum', in the pinned program and in every row, IS THE sha256 OF THE DUMP (.gsa) THAT YtahjhhmhgjkheaaProg.lean LOADS. Nothing in Lean hashes anything: it is a label: what it is worth is what the hold of that sum in a sandbox is worth. -/
noncomputable def Try.pinned : Pinned := { name := "ytahjhhmhgjkheaa", sum := "2b443740d1d34bdec2423fe2aee815ec028631ecb999923b53c11d79089300f4", checked := Try.checked }
namespace Rows
def none {H : Type} : Left H := { results := [], args := [] }

/-- 'arboretumlaw2.DevKeeps': WHATEVER THE INPUT: true; the input reads as it did. -/
def devKeepsSpec : ChangeSpec := { name := "devKeeps", fn := fun _ => fun
  | [d1, d2, d3] => { results := [.lit (.bool true)], args := [d1, d2, d3] }
  | _ => none }
def devKeepsRow : OpenClaim := { program := "ytahjhhmhgjkheaa", sum := "2b443740d1d34bdec2423fe2aee815ec028631ecb999923b53c11d79089300f4", func := "arboretum/arboretumlaw2.DevKeeps", spec := "devKeeps", inPlace := ["internal/abi.NoEscape", "internal/bytealg.MakeNoZero"], apart := false }
def DevKeepsSaid : Prop := devKeepsRow.holds Try.pinned (OpenSpec.ofChange devKeepsSpec)

/-- ITS FALSE NEIGHBOUR: 'it returns false'. Refute it at one input. -/
def devKeepsWrong : ChangeSpec := { name := "devKeeps", fn := fun _ => fun
  | [d1, d2, d3] => { results := [.lit (.bool false)], args := [d1, d2, d3] }
  | _ => none }
def DevKeepsWrongFalsely : Prop := devKeepsRow.holds Try.pinned (OpenSpec.ofChange devKeepsWrong)

/-- 'arboretumlaw2.DevLast': WHATEVER THE INPUT: true; the input reads as it did. -/
def devLastSpec : ChangeSpec := { name := "devLast", fn := fun _ => fun
  | [d1, d2] => { results := [.lit (.bool true)], args := [d1, d2] }
  | _ => none }
def devLastRow : OpenClaim := { program := "ytahjhhmhgjkheaa", sum := "2b443740d1d34bdec2423fe2aee815ec028631ecb999923b53c11d79089300f4", func := "arboretum/arboretumlaw2.DevLast", spec := "devLast", inPlace := ["internal/abi.NoEscape", "internal/bytealg.MakeNoZero"], apart := false }
def DevLastSaid : Prop := devLastRow.holds Try.pinned (OpenSpec.ofChange devLastSpec)

/-- ITS FALSE NEIGHBOUR: 'it returns false'. Refute it at one input. -/
def devLastWrong : ChangeSpec := { name := "devLast", fn := fun _ => fun
  | [d1, d2] => { results := [.lit (.bool false)], args := [d1, d2] }
  | _ => none }
def DevLastWrongFalsely : Prop := devLastRow.holds Try.pinned (OpenSpec.ofChange devLastWrong)

/-- 'arboretumlaw2.DevGrows': WHATEVER THE INPUT: true; the input reads as it did. -/
def devGrowsSpec : ChangeSpec := { name := "devGrows", fn := fun _ => fun
  | [d1, d2, d3] => { results := [.lit (.bool true)], args := [d1, d2, d3] }
  | _ => none }
def devGrowsRow : OpenClaim := { program := "ytahjhhmhgjkheaa", sum := "2b443740d1d34bdec2423fe2aee815ec028631ecb999923b53c11d79089300f4", func := "arboretum/arboretumlaw2.DevGrows", spec := "devGrows", inPlace := ["internal/abi.NoEscape", "internal/bytealg.MakeNoZero"], apart := false }
def DevGrowsSaid : Prop := devGrowsRow.holds Try.pinned (OpenSpec.ofChange devGrowsSpec)

/-- ITS FALSE NEIGHBOUR: 'it returns false'. Refute it at one input. -/
def devGrowsWrong : ChangeSpec := { name := "devGrows", fn := fun _ => fun
  | [d1, d2, d3] => { results := [.lit (.bool false)], args := [d1, d2, d3] }
  | _ => none }
def DevGrowsWrongFalsely : Prop := devGrowsRow.holds Try.pinned (OpenSpec.ofChange devGrowsWrong)

/-- 'arboretumlaw2.DevFuses': WHATEVER THE INPUT: true; the input reads as it did. -/
def devFusesSpec : ChangeSpec := { name := "devFuses", fn := fun _ => fun
  | [d] => { results := [.lit (.bool true)], args := [d] }
  | _ => none }
def devFusesRow : OpenClaim := { program := "ytahjhhmhgjkheaa", sum := "2b443740d1d34bdec2423fe2aee815ec028631ecb999923b53c11d79089300f4", func := "arboretum/arboretumlaw2.DevFuses", spec := "devFuses", inPlace := ["internal/abi.NoEscape", "internal/bytealg.MakeNoZero"], apart := false }
def DevFusesSaid : Prop := devFusesRow.holds Try.pinned (OpenSpec.ofChange devFusesSpec)

/-- ITS FALSE NEIGHBOUR: 'it returns false'. Refute it at one input. -/
def devFusesWrong : ChangeSpec := { name := "devFuses", fn := fun _ => fun
  | [d] => { results := [.lit (.bool false)], args := [d] }
  | _ => none }
def DevFusesWrongFalsely : Prop := devFusesRow.holds Try.pinned (OpenSpec.ofChange devFusesWrong)

/-- 'arboretumlaw2.DevTwins': WHATEVER THE INPUT: true; the input reads as it did. -/
def devTwinsSpec : ChangeSpec := { name := "devTwins", fn := fun _ => fun
  | [d1, d2, d3] => { results := [.lit (.bool true)], args := [d1, d2, d3] }
  | _ => none }
def devTwinsRow : OpenClaim := { program := "ytahjhhmhgjkheaa", sum := "2b443740d1d34bdec2423fe2aee815ec028631ecb999923b53c11d79089300f4", func := "arboretum/arboretumlaw2.DevTwins", spec := "devTwins", inPlace := ["internal/abi.NoEscape", "internal/bytealg.MakeNoZero"], apart := false }
def DevTwinsSaid : Prop := devTwinsRow.holds Try.pinned (OpenSpec.ofChange devTwinsSpec)

/-- ITS FALSE NEIGHBOUR: 'it returns false'. Refute it at one input. -/
def devTwinsWrong : ChangeSpec := { name := "devTwins", fn := fun _ => fun
  | [d1, d2, d3] => { results := [.lit (.bool false)], args := [d1, d2, d3] }
  | _ => none }
def DevTwinsWrongFalsely : Prop := devTwinsRow.holds Try.pinned (OpenSpec.ofChange devTwinsWrong)

/-- 'arboretumlaw2.DevNone': WHATEVER THE INPUT: true; the input reads as it did. -/
def devNoneSpec : ChangeSpec := { name := "devNone", fn := fun _ => fun
  | [d] => { results := [.lit (.bool true)], args := [d] }
  | _ => none }
def devNoneRow : OpenClaim := { program := "ytahjhhmhgjkheaa", sum := "2b443740d1d34bdec2423fe2aee815ec028631ecb999923b53c11d79089300f4", func := "arboretum/arboretumlaw2.DevNone", spec := "devNone", inPlace := ["internal/abi.NoEscape", "internal/bytealg.MakeNoZero"], apart := false }
def DevNoneSaid : Prop := devNoneRow.holds Try.pinned (OpenSpec.ofChange devNoneSpec)

/-- ITS FALSE NEIGHBOUR: 'it returns false'. Refute it at one input. -/
def devNoneWrong : ChangeSpec := { name := "devNone", fn := fun _ => fun
  | [d] => { results := [.lit (.bool false)], args := [d] }
  | _ => none }
def DevNoneWrongFalsely : Prop := devNoneRow.holds Try.pinned (OpenSpec.ofChange devNoneWrong)

/- THE SECOND FORM. 'bulk': how many values and letters a reading holds, each counted each time it is reached (what is shared counts as often as it is met; a slice's spare places count too). A statement '..UptoSaid' is the law's where the arguments, and the package variables that the reading takes, are together of bulk at most 1048576: NARROWER than '..Said'. Prove '..Said' where nothing that the law and all that it calls make is longer than what came in: it says more and counts as full. Else prove '..UptoSaid'. A law counts once. -/
mutual
def uptoBulk {H : Type} : DataW H → Nat
  | .lit (.string bytes) => bytes.length + 1
  | .lit _ => 1
  | .nil => 1
  | .ptr d => uptoBulk d + 1
  | .slice elems spare => uptoBulkAll elems + uptoBulkAll spare + 1
  | .agg parts => uptoBulkAll parts + 1
  | .iface _ d => uptoBulk d + 1
  | .map entries => uptoBulkEntries entries + 1
  | .held _ => 1
def uptoBulkAll {H : Type} : List (DataW H) → Nat
  | [] => 0
  | d :: r => uptoBulk d + uptoBulkAll r
def uptoBulkEntries {H : Type} : List (Lit × DataW H) → Nat
  | [] => 0
  | x :: r => uptoBulkEntry x + uptoBulkEntries r
def uptoBulkEntry {H : Type} : Lit × DataW H → Nat
  | (.string bytes, d) => bytes.length + uptoBulk d + 1
  | (_, d) => uptoBulk d + 1
 end
def uptoSmall : (H : Type) → List (DataW H) → Bool := fun _ ds => decide (uptoBulkAll ds ≤ 1048576)
def OpenSpec.upto (s : _root_.Go.ChangeSpec) : _root_.Go.OpenSpec := { _root_.Go.OpenSpec.ofChange s with cond := some uptoSmall }

/-- 'arboretumlaw2.DevKeeps', WHERE WHAT IT READS IS OF BULK AT MOST 1048576: true; the input reads as it did. -/
def devKeepsUptoRow : OpenClaim := { program := "ytahjhhmhgjkheaa", sum := "2b443740d1d34bdec2423fe2aee815ec028631ecb999923b53c11d79089300f4", func := "arboretum/arboretumlaw2.DevKeeps", spec := "devKeeps", inPlace := ["internal/abi.NoEscape", "internal/bytealg.MakeNoZero"], apart := false, narrowed := true }
def DevKeepsUptoSaid : Prop := devKeepsUptoRow.holds Try.pinned (OpenSpec.upto devKeepsSpec)

/-- 'arboretumlaw2.DevLast', WHERE WHAT IT READS IS OF BULK AT MOST 1048576: true; the input reads as it did. -/
def devLastUptoRow : OpenClaim := { program := "ytahjhhmhgjkheaa", sum := "2b443740d1d34bdec2423fe2aee815ec028631ecb999923b53c11d79089300f4", func := "arboretum/arboretumlaw2.DevLast", spec := "devLast", inPlace := ["internal/abi.NoEscape", "internal/bytealg.MakeNoZero"], apart := false, narrowed := true }
def DevLastUptoSaid : Prop := devLastUptoRow.holds Try.pinned (OpenSpec.upto devLastSpec)

/-- 'arboretumlaw2.DevGrows', WHERE WHAT IT READS IS OF BULK AT MOST 1048576: true; the input reads as it did. -/
def devGrowsUptoRow : OpenClaim := { program := "ytahjhhmhgjkheaa", sum := "2b443740d1d34bdec2423fe2aee815ec028631ecb999923b53c11d79089300f4", func := "arboretum/arboretumlaw2.DevGrows", spec := "devGrows", inPlace := ["internal/abi.NoEscape", "internal/bytealg.MakeNoZero"], apart := false, narrowed := true }
def DevGrowsUptoSaid : Prop := devGrowsUptoRow.holds Try.pinned (OpenSpec.upto devGrowsSpec)

/-- 'arboretumlaw2.DevFuses', WHERE WHAT IT READS IS OF BULK AT MOST 1048576: true; the input reads as it did. -/
def devFusesUptoRow : OpenClaim := { program := "ytahjhhmhgjkheaa", sum := "2b443740d1d34bdec2423fe2aee815ec028631ecb999923b53c11d79089300f4", func := "arboretum/arboretumlaw2.DevFuses", spec := "devFuses", inPlace := ["internal/abi.NoEscape", "internal/bytealg.MakeNoZero"], apart := false, narrowed := true }
def DevFusesUptoSaid : Prop := devFusesUptoRow.holds Try.pinned (OpenSpec.upto devFusesSpec)

/-- 'arboretumlaw2.DevTwins', WHERE WHAT IT READS IS OF BULK AT MOST 1048576: true; the input reads as it did. -/
def devTwinsUptoRow : OpenClaim := { program := "ytahjhhmhgjkheaa", sum := "2b443740d1d34bdec2423fe2aee815ec028631ecb999923b53c11d79089300f4", func := "arboretum/arboretumlaw2.DevTwins", spec := "devTwins", inPlace := ["internal/abi.NoEscape", "internal/bytealg.MakeNoZero"], apart := false, narrowed := true }
def DevTwinsUptoSaid : Prop := devTwinsUptoRow.holds Try.pinned (OpenSpec.upto devTwinsSpec)

/-- 'arboretumlaw2.DevNone', WHERE WHAT IT READS IS OF BULK AT MOST 1048576: true; the input reads as it did. -/
def devNoneUptoRow : OpenClaim := { program := "ytahjhhmhgjkheaa", sum := "2b443740d1d34bdec2423fe2aee815ec028631ecb999923b53c11d79089300f4", func := "arboretum/arboretumlaw2.DevNone", spec := "devNone", inPlace := ["internal/abi.NoEscape", "internal/bytealg.MakeNoZero"], apart := false, narrowed := true }
def DevNoneUptoSaid : Prop := devNoneUptoRow.holds Try.pinned (OpenSpec.upto devNoneSpec)

end Rows
end Go.Proofs.Ytahjhhmhgjkheaa
