/-
  No cell of these rows narrows 'for every input' (looked for: loops, veiled, ifaces, maps, wideKeys, modest, calm, conditions, laid).
  DERIVED. THE GIVEN ROWS OF THIS SEAT. 3 by the template 'for every input the law returns true; each argument reads behind the call as it read before'; 0 by the template 'total and deterministic' (their statements: YtedcpckocedcoaaTotals.lean).
  GIVEN WITH THE SEED: the statements are not yours to turn. If you find one false, say at which input.
  Laid BY PROGRAM, IN A SANDBOX (cutbox-rows.mjs): the forced cells as the released guide's own fill.sh prints them over the translation 0fe8c2cecd1a2c2a… (all of the seat's roots in one cut). By AI agents, Wed Nov 11 2026. No macro, syntax, notation, axiom, sorry.
-/
import Derived.Test.YtedcpckocedcoaaChecked
import GoSem.Claim
import GoSem.ClaimJoined
import GoSem.ClaimMapViews
import Derived.JoinedTies
import Derived.KernelRfl
namespace Go.Proofs.Ytedcpckocedcoaa
/- THE CELL 'sum', in the pinned program and in every row, IS THE sha256 OF THE DUMP (.gsa) THAT YtedcpckocedcoaaProg.lean LOADS. Nothing in Lean hashes anything: it is a label: what it is worth is what the hold of that sum in a sandbox is worth. -/
noncomputable def Try.pinned : Pinned := { name := "ytedcpckocedcoaa", sum := "0fe8c2cecd1a2c2aea10c0bd3fe34c63c0ab833330ddd43c40a09e505110fad6", checked := Try.checked }
namespace Rows
def none {H : Type} : Left H := { results := [], args := [] }

/-- 'arboretumlaw6.FreeHolds': WHATEVER THE INPUT: true; the input reads as it did. -/
def freeHoldsSpec : ChangeSpec := { name := "freeHolds", fn := fun _ => fun
  | [d1, d2] => { results := [.lit (.bool true)], args := [d1, d2] }
  | _ => none }
def freeHoldsRow : OpenClaim := { program := "ytedcpckocedcoaa", sum := "0fe8c2cecd1a2c2aea10c0bd3fe34c63c0ab833330ddd43c40a09e505110fad6", func := "arboretum/arboretumlaw6.FreeHolds", spec := "freeHolds", unfollowed := true, recurses := true, apart := false }
def FreeHoldsSaid : Prop := freeHoldsRow.holds Try.pinned (OpenSpec.ofChange freeHoldsSpec)

/-- ITS FALSE NEIGHBOUR: 'it returns false'. Refute it at one input. -/
def freeHoldsWrong : ChangeSpec := { name := "freeHolds", fn := fun _ => fun
  | [d1, d2] => { results := [.lit (.bool false)], args := [d1, d2] }
  | _ => none }
def FreeHoldsWrongFalsely : Prop := freeHoldsRow.holds Try.pinned (OpenSpec.ofChange freeHoldsWrong)

/-- 'arboretumlaw6.FreeNone': WHATEVER THE INPUT: true; the input reads as it did. -/
def freeNoneSpec : ChangeSpec := { name := "freeNone", fn := fun _ => fun
  | [d] => { results := [.lit (.bool true)], args := [d] }
  | _ => none }
def freeNoneRow : OpenClaim := { program := "ytedcpckocedcoaa", sum := "0fe8c2cecd1a2c2aea10c0bd3fe34c63c0ab833330ddd43c40a09e505110fad6", func := "arboretum/arboretumlaw6.FreeNone", spec := "freeNone", unfollowed := true, recurses := true, apart := false }
def FreeNoneSaid : Prop := freeNoneRow.holds Try.pinned (OpenSpec.ofChange freeNoneSpec)

/-- ITS FALSE NEIGHBOUR: 'it returns false'. Refute it at one input. -/
def freeNoneWrong : ChangeSpec := { name := "freeNone", fn := fun _ => fun
  | [d] => { results := [.lit (.bool false)], args := [d] }
  | _ => none }
def FreeNoneWrongFalsely : Prop := freeNoneRow.holds Try.pinned (OpenSpec.ofChange freeNoneWrong)

/-- 'arboretumlaw6.FreeTakes': WHATEVER THE INPUT: true; the input reads as it did. -/
def freeTakesSpec : ChangeSpec := { name := "freeTakes", fn := fun _ => fun
  | [d1, d2] => { results := [.lit (.bool true)], args := [d1, d2] }
  | _ => none }
def freeTakesRow : OpenClaim := { program := "ytedcpckocedcoaa", sum := "0fe8c2cecd1a2c2aea10c0bd3fe34c63c0ab833330ddd43c40a09e505110fad6", func := "arboretum/arboretumlaw6.FreeTakes", spec := "freeTakes", unfollowed := true, recurses := true, apart := false }
def FreeTakesSaid : Prop := freeTakesRow.holds Try.pinned (OpenSpec.ofChange freeTakesSpec)

/-- ITS FALSE NEIGHBOUR: 'it returns false'. Refute it at one input. -/
def freeTakesWrong : ChangeSpec := { name := "freeTakes", fn := fun _ => fun
  | [d1, d2] => { results := [.lit (.bool false)], args := [d1, d2] }
  | _ => none }
def FreeTakesWrongFalsely : Prop := freeTakesRow.holds Try.pinned (OpenSpec.ofChange freeTakesWrong)

/- THE SECOND FORM. 'bulk': how many values and letters a reading holds, each counted each time it is reached (what is shared counts as often as it is met; a slice's spare places count too). A statement '..UptoSaid' is the law's where the arguments, and the package variables that the reading takes, are together of bulk at most 1048576: NARROWER than '..Said'. Prove '..Said' where nothing that the law and all that it calls make is longer than what came in: it says more and counts as full. Else prove '..UptoSaid'. A law counts once. -/
mutual
def uptoBulk {H : Type} : DataW H → Nat
  | .lit (.string bytes) => bytes.length + 1
  | .lit _ => 1
  | .nil => 1
  | .ptr d => uptoBulk d + 1
  | .slice elems spare => uptoBulkAll elems + uptoBulkAll spare + 1
  | .agg parts => uptoBulkAll parts + 1
  | .iface _ d => uptoBulk d + 1
  | .map entries => uptoBulkEntries entries + 1
  | .held _ => 1
def uptoBulkAll {H : Type} : List (DataW H) → Nat
  | [] => 0
  | d :: r => uptoBulk d + uptoBulkAll r
def uptoBulkEntries {H : Type} : List (Lit × DataW H) → Nat
  | [] => 0
  | x :: r => uptoBulkEntry x + uptoBulkEntries r
def uptoBulkEntry {H : Type} : Lit × DataW H → Nat
  | (.string bytes, d) => bytes.length + uptoBulk d + 1
  | (_, d) => uptoBulk d + 1
 end
def uptoSmall : (H : Type) → List (DataW H) → Bool := fun _ ds => decide (uptoBulkAll ds ≤ 1048576)
def OpenSpec.upto (s : _root_.Go.ChangeSpec) : _root_.Go.OpenSpec := { _root_.Go.OpenSpec.ofChange s with cond := some uptoSmall }

/-- 'arboretumlaw6.FreeHolds', WHERE WHAT IT READS IS OF BULK AT MOST 1048576: true; the input reads as it did. -/
def freeHoldsUptoRow : OpenClaim := { program := "ytedcpckocedcoaa", sum := "0fe8c2cecd1a2c2aea10c0bd3fe34c63c0ab833330ddd43c40a09e505110fad6", func := "arboretum/arboretumlaw6.FreeHolds", spec := "freeHolds", unfollowed := true, recurses := true, apart := false, narrowed := true }
def FreeHoldsUptoSaid : Prop := freeHoldsUptoRow.holds Try.pinned (OpenSpec.upto freeHoldsSpec)

/-- 'arboretumlaw6.FreeNone', WHERE WHAT IT READS IS OF BULK AT MOST 1048576: true; the input reads as it did. -/
def freeNoneUptoRow : OpenClaim := { program := "ytedcpckocedcoaa", sum := "0fe8c2cecd1a2c2aea10c0bd3fe34c63c0ab833330ddd43c40a09e505110fad6", func := "arboretum/arboretumlaw6.FreeNone", spec := "freeNone", unfollowed := true, recurses := true, apart := false, narrowed := true }
def FreeNoneUptoSaid : Prop := freeNoneUptoRow.holds Try.pinned (OpenSpec.upto freeNoneSpec)

/-- 'arboretumlaw6.FreeTakes', WHERE WHAT IT READS IS OF BULK AT MOST 1048576: true; the input reads as it did. -/
def freeTakesUptoRow : OpenClaim := { program := "ytedcpckocedcoaa", sum := "0fe8c2cecd1a2c2aea10c0bd3fe34c63c0ab833330ddd43c40a09e505110fad6", func := "arboretum/arboretumlaw6.FreeTakes", spec := "freeTakes", unfollowed := true, recurses := true, apart := false, narrowed := true }
def FreeTakesUptoSaid : Prop := freeTakesUptoRow.holds Try.pinned (OpenSpec.upto freeTakesSpec)

end Rows
end Go.Proofs.Ytedcpckocedcoaa
