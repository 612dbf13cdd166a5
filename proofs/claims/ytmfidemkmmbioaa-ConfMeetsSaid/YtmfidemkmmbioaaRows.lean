/-
  No cell of these rows narrows 'for every input' (looked for: loops, veiled, ifaces, maps, wideKeys, modest, calm, conditions, laid).
  DERIVED. THE GIVEN ROWS OF THIS SEAT. 4 by the template 'for every input the law returns true; each argument reads behind the call as it read before'; 0 by the template 'total and deterministic' (their statements: YtmfidemkmmbioaaTotals.lean).
  GIVEN WITH THE SEED: the statements are not yours to turn. If you find one false, say at which input.
  Laid BY PROGRAM, IN A SANDBOX (cutbox-rows.mjs): the forced cells as the released guide's own fill.sh prints them over the translation 735cdf5ed7e74099… (all of the seat's roots in one cut). By AI agents, Wed Nov 11 2026. No macro, syntax, notation, axiom, sorry.
-/
import Derived.Test.YtmfidemkmmbioaaChecked
import GoSem.Claim
import GoSem.ClaimJoined
import GoSem.ClaimMapViews
import Derived.JoinedTies
import Derived.KernelRfl
namespace Go.Proofs.Ytmfidemkmmbioaa
/- THE CELL 'sum', in the pinned program and in every row, IS THE sha256 OF THE DUMP (.gsa) THAT YtmfidemkmmbioaaProg.lean LOADS. Nothing in Lean hashes anything: it is a label: what it is worth is what the hold of that sum in a sandbox is worth. -/
noncomputable def Try.pinned : Pinned := { name := "ytmfidemkmmbioaa", sum := "735cdf5ed7e740996747baf04635acf6563788cf2a50e6f93e70d83555901f17", checked := Try.checked }
namespace Rows
def none {H : Type} : Left H := { results := [], args := [] }

/-- 'arboretumlaw17.ConfMeets': WHATEVER THE INPUT: true; the input reads as it did. -/
def confMeetsSpec : ChangeSpec := { name := "confMeets", fn := fun _ => fun
  | [d1, d2, d3, d4, d5] => { results := [.lit (.bool true)], args := [d1, d2, d3, d4, d5] }
  | _ => none }
def confMeetsRow : OpenClaim := { program := "ytmfidemkmmbioaa", sum := "735cdf5ed7e740996747baf04635acf6563788cf2a50e6f93e70d83555901f17", func := "arboretum/arboretumlaw17.ConfMeets", spec := "confMeets", unfollowed := true, recurses := true, apart := false }
def ConfMeetsSaid : Prop := confMeetsRow.holds Try.pinned (OpenSpec.ofChange confMeetsSpec)

/-- ITS FALSE NEIGHBOUR: 'it returns false'. Refute it at one input. -/
def confMeetsWrong : ChangeSpec := { name := "confMeets", fn := fun _ => fun
  | [d1, d2, d3, d4, d5] => { results := [.lit (.bool false)], args := [d1, d2, d3, d4, d5] }
  | _ => none }
def ConfMeetsWrongFalsely : Prop := confMeetsRow.holds Try.pinned (OpenSpec.ofChange confMeetsWrong)

/-- 'arboretumlaw17.ConfReaches': WHATEVER THE INPUT: true; the input reads as it did. -/
def confReachesSpec : ChangeSpec := { name := "confReaches", fn := fun _ => fun
  | [d1, d2] => { results := [.lit (.bool true)], args := [d1, d2] }
  | _ => none }
def confReachesRow : OpenClaim := { program := "ytmfidemkmmbioaa", sum := "735cdf5ed7e740996747baf04635acf6563788cf2a50e6f93e70d83555901f17", func := "arboretum/arboretumlaw17.ConfReaches", spec := "confReaches", unfollowed := true, recurses := true, apart := false }
def ConfReachesSaid : Prop := confReachesRow.holds Try.pinned (OpenSpec.ofChange confReachesSpec)

/-- ITS FALSE NEIGHBOUR: 'it returns false'. Refute it at one input. -/
def confReachesWrong : ChangeSpec := { name := "confReaches", fn := fun _ => fun
  | [d1, d2] => { results := [.lit (.bool false)], args := [d1, d2] }
  | _ => none }
def ConfReachesWrongFalsely : Prop := confReachesRow.holds Try.pinned (OpenSpec.ofChange confReachesWrong)

/-- 'arboretumlaw17.ConfNorm': WHATEVER THE INPUT: true; the input reads as it did. -/
def confNormSpec : ChangeSpec := { name := "confNorm", fn := fun _ => fun
  | [d1, d2] => { results := [.lit (.bool true)], args := [d1, d2] }
  | _ => none }
def confNormRow : OpenClaim := { program := "ytmfidemkmmbioaa", sum := "735cdf5ed7e740996747baf04635acf6563788cf2a50e6f93e70d83555901f17", func := "arboretum/arboretumlaw17.ConfNorm", spec := "confNorm", unfollowed := true, recurses := true, apart := false }
def ConfNormSaid : Prop := confNormRow.holds Try.pinned (OpenSpec.ofChange confNormSpec)

/-- ITS FALSE NEIGHBOUR: 'it returns false'. Refute it at one input. -/
def confNormWrong : ChangeSpec := { name := "confNorm", fn := fun _ => fun
  | [d1, d2] => { results := [.lit (.bool false)], args := [d1, d2] }
  | _ => none }
def ConfNormWrongFalsely : Prop := confNormRow.holds Try.pinned (OpenSpec.ofChange confNormWrong)

/-- 'arboretumlaw17.ConfWins': WHATEVER THE INPUT: true; the input reads as it did. -/
def confWinsSpec : ChangeSpec := { name := "confWins", fn := fun _ => fun
  | [d1, d2, d3] => { results := [.lit (.bool true)], args := [d1, d2, d3] }
  | _ => none }
def confWinsRow : OpenClaim := { program := "ytmfidemkmmbioaa", sum := "735cdf5ed7e740996747baf04635acf6563788cf2a50e6f93e70d83555901f17", func := "arboretum/arboretumlaw17.ConfWins", spec := "confWins", unfollowed := true, recurses := true, apart := false }
def ConfWinsSaid : Prop := confWinsRow.holds Try.pinned (OpenSpec.ofChange confWinsSpec)

/-- ITS FALSE NEIGHBOUR: 'it returns false'. Refute it at one input. -/
def confWinsWrong : ChangeSpec := { name := "confWins", fn := fun _ => fun
  | [d1, d2, d3] => { results := [.lit (.bool false)], args := [d1, d2, d3] }
  | _ => none }
def ConfWinsWrongFalsely : Prop := confWinsRow.holds Try.pinned (OpenSpec.ofChange confWinsWrong)

/- THE SECOND FORM. 'bulk': how many values and letters a reading holds, each counted each time it is reached (what is shared counts as often as it is met; a slice's spare places count too). A statement '..UptoSaid' is the law's where the arguments, and the package variables that the reading takes, are together of bulk at most 1048576: NARROWER than '..Said'. Prove '..Said' where nothing that the law and all that it calls make is longer than what came in: it says more and counts as full. Else prove '..UptoSaid'. A law counts once. -/
mutual
def uptoBulk {H : Type} : DataW H → Nat
  | .lit (.string bytes) => bytes.length + 1
  | .lit _ => 1
  | .nil => 1
  | .ptr d => uptoBulk d + 1
  | .slice elems spare => uptoBulkAll elems + uptoBulkAll spare + 1
  | .agg parts => uptoBulkAll parts + 1
  | .iface _ d => uptoBulk d + 1
  | .map entries => uptoBulkEntries entries + 1
  | .held _ => 1
def uptoBulkAll {H : Type} : List (DataW H) → Nat
  | [] => 0
  | d :: r => uptoBulk d + uptoBulkAll r
def uptoBulkEntries {H : Type} : List (Lit × DataW H) → Nat
  | [] => 0
  | x :: r => uptoBulkEntry x + uptoBulkEntries r
def uptoBulkEntry {H : Type} : Lit × DataW H → Nat
  | (.string bytes, d) => bytes.length + uptoBulk d + 1
  | (_, d) => uptoBulk d + 1
 end
def uptoSmall : (H : Type) → List (DataW H) → Bool := fun _ ds => decide (uptoBulkAll ds ≤ 1048576)
def OpenSpec.upto (s : _root_.Go.ChangeSpec) : _root_.Go.OpenSpec := { _root_.Go.OpenSpec.ofChange s with cond := some uptoSmall }

/-- 'arboretumlaw17.ConfMeets', WHERE WHAT IT READS IS OF BULK AT MOST 1048576: true; the input reads as it did. -/
def confMeetsUptoRow : OpenClaim := { program := "ytmfidemkmmbioaa", sum := "735cdf5ed7e740996747baf04635acf6563788cf2a50e6f93e70d83555901f17", func := "arboretum/arboretumlaw17.ConfMeets", spec := "confMeets", unfollowed := true, recurses := true, apart := false, narrowed := true }
def ConfMeetsUptoSaid : Prop := confMeetsUptoRow.holds Try.pinned (OpenSpec.upto confMeetsSpec)

/-- 'arboretumlaw17.ConfReaches', WHERE WHAT IT READS IS OF BULK AT MOST 1048576: true; the input reads as it did. -/
def confReachesUptoRow : OpenClaim := { program := "ytmfidemkmmbioaa", sum := "735cdf5ed7e740996747baf04635acf6563788cf2a50e6f93e70d83555901f17", func := "arboretum/arboretumlaw17.ConfReaches", spec := "confReaches", unfollowed := true, recurses := true, apart := false, narrowed := true }
def ConfReachesUptoSaid : Prop := confReachesUptoRow.holds Try.pinned (OpenSpec.upto confReachesSpec)

/-- 'arboretumlaw17.ConfNorm', WHERE WHAT IT READS IS OF BULK AT MOST 1048576: true; the input reads as it did. -/
def confNormUptoRow : OpenClaim := { program := "ytmfidemkmmbioaa", sum := "735cdf5ed7e740996747baf04635acf6563788cf2a50e6f93e70d83555901f17", func := "arboretum/arboretumlaw17.ConfNorm", spec := "confNorm", unfollowed := true, recurses := true, apart := false, narrowed := true }
def ConfNormUptoSaid : Prop := confNormUptoRow.holds Try.pinned (OpenSpec.upto confNormSpec)

/-- 'arboretumlaw17.ConfWins', WHERE WHAT IT READS IS OF BULK AT MOST 1048576: true; the input reads as it did. -/
def confWinsUptoRow : OpenClaim := { program := "ytmfidemkmmbioaa", sum := "735cdf5ed7e740996747baf04635acf6563788cf2a50e6f93e70d83555901f17", func := "arboretum/arboretumlaw17.ConfWins", spec := "confWins", unfollowed := true, recurses := true, apart := false, narrowed := true }
def ConfWinsUptoSaid : Prop := confWinsUptoRow.holds Try.pinned (OpenSpec.upto confWinsSpec)

end Rows
end Go.Proofs.Ytmfidemkmmbioaa
