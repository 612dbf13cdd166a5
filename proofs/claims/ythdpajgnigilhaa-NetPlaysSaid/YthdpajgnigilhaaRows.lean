/-
  No cell of these rows narrows 'for every input' (looked for: loops, veiled, ifaces, maps, wideKeys, modest, calm, conditions, laid).
  DERIVED. THE GIVEN ROWS OF THIS SEAT. 5 by the template 'for every input the law returns true; each argument reads behind the call as it read before'; 0 by the template 'total and deterministic' (their statements: YthdpajgnigilhaaTotals.lean).
  GIVEN WITH THE SEED: the statements are not yours to turn. If you find one false, say at which input.
  Laid BY PROGRAM, IN A SANDBOX (cutbox-rows.mjs): the forced cells as the released guide's own fill.sh prints them over the translation 2cb5cdb1c2cb5c57… (all of the seat's roots in one cut). By AI agents, Wed Nov 11 2026. No macro, syntax, notation, axiom, sorry.
-/
import Derived.Test.YthdpajgnigilhaaChecked
import GoSem.Claim
import GoSem.ClaimJoined
import GoSem.ClaimMapViews
import Derived.JoinedTies
import Derived.KernelRfl
namespace Go.Proofs.Ythdpajgnigilhaa
/- THE CELL 'sum', in the pinned program and in every row, IS THE sha256 OF THE DUMP (.gsa) THAT YthdpajgnigilhaaProg.lean LOADS. Nothing in Lean hashes anything: it is a label: what it is worth is what the hold of that sum in a sandbox is worth. -/
noncomputable def Try.pinned : Pinned := { name := "ythdpajgnigilhaa", sum := "2cb5cdb1c2cb5c572a16bf5380c1581981733c3c6426a61d5b3a70c5045580cb", checked := Try.checked }
namespace Rows
def none {H : Type} : Left H := { results := [], args := [] }

/-- 'arboretumlaw27.NetFull': WHATEVER THE INPUT: true; the input reads as it did. -/
def netFullSpec : ChangeSpec := { name := "netFull", fn := fun _ => fun
  | [d1, d2] => { results := [.lit (.bool true)], args := [d1, d2] }
  | _ => none }
def netFullRow : OpenClaim := { program := "ythdpajgnigilhaa", sum := "2cb5cdb1c2cb5c572a16bf5380c1581981733c3c6426a61d5b3a70c5045580cb", func := "arboretum/arboretumlaw27.NetFull", spec := "netFull", unfollowed := true, recurses := true, plainKeys := false, apart := false }
def NetFullSaid : Prop := netFullRow.holds Try.pinned (OpenSpec.ofChange netFullSpec)

/-- ITS FALSE NEIGHBOUR: 'it returns false'. Refute it at one input. -/
def netFullWrong : ChangeSpec := { name := "netFull", fn := fun _ => fun
  | [d1, d2] => { results := [.lit (.bool false)], args := [d1, d2] }
  | _ => none }
def NetFullWrongFalsely : Prop := netFullRow.holds Try.pinned (OpenSpec.ofChange netFullWrong)

/-- 'arboretumlaw27.NetKeeps': WHATEVER THE INPUT: true; the input reads as it did. -/
def netKeepsSpec : ChangeSpec := { name := "netKeeps", fn := fun _ => fun
  | [d1, d2] => { results := [.lit (.bool true)], args := [d1, d2] }
  | _ => none }
def netKeepsRow : OpenClaim := { program := "ythdpajgnigilhaa", sum := "2cb5cdb1c2cb5c572a16bf5380c1581981733c3c6426a61d5b3a70c5045580cb", func := "arboretum/arboretumlaw27.NetKeeps", spec := "netKeeps", unfollowed := true, recurses := true, plainKeys := false, apart := false }
def NetKeepsSaid : Prop := netKeepsRow.holds Try.pinned (OpenSpec.ofChange netKeepsSpec)

/-- ITS FALSE NEIGHBOUR: 'it returns false'. Refute it at one input. -/
def netKeepsWrong : ChangeSpec := { name := "netKeeps", fn := fun _ => fun
  | [d1, d2] => { results := [.lit (.bool false)], args := [d1, d2] }
  | _ => none }
def NetKeepsWrongFalsely : Prop := netKeepsRow.holds Try.pinned (OpenSpec.ofChange netKeepsWrong)

/-- 'arboretumlaw27.NetDoubles': WHATEVER THE INPUT: true; the input reads as it did. -/
def netDoublesSpec : ChangeSpec := { name := "netDoubles", fn := fun _ => fun
  | [d1, d2, d3] => { results := [.lit (.bool true)], args := [d1, d2, d3] }
  | _ => none }
def netDoublesRow : OpenClaim := { program := "ythdpajgnigilhaa", sum := "2cb5cdb1c2cb5c572a16bf5380c1581981733c3c6426a61d5b3a70c5045580cb", func := "arboretum/arboretumlaw27.NetDoubles", spec := "netDoubles", unfollowed := true, recurses := true, plainKeys := false, apart := false }
def NetDoublesSaid : Prop := netDoublesRow.holds Try.pinned (OpenSpec.ofChange netDoublesSpec)

/-- ITS FALSE NEIGHBOUR: 'it returns false'. Refute it at one input. -/
def netDoublesWrong : ChangeSpec := { name := "netDoubles", fn := fun _ => fun
  | [d1, d2, d3] => { results := [.lit (.bool false)], args := [d1, d2, d3] }
  | _ => none }
def NetDoublesWrongFalsely : Prop := netDoublesRow.holds Try.pinned (OpenSpec.ofChange netDoublesWrong)

/-- 'arboretumlaw27.NetPlays': WHATEVER THE INPUT: true; the input reads as it did. -/
def netPlaysSpec : ChangeSpec := { name := "netPlays", fn := fun _ => fun
  | [d1, d2] => { results := [.lit (.bool true)], args := [d1, d2] }
  | _ => none }
def netPlaysRow : OpenClaim := { program := "ythdpajgnigilhaa", sum := "2cb5cdb1c2cb5c572a16bf5380c1581981733c3c6426a61d5b3a70c5045580cb", func := "arboretum/arboretumlaw27.NetPlays", spec := "netPlays", unfollowed := true, recurses := true, plainKeys := false, apart := false }
def NetPlaysSaid : Prop := netPlaysRow.holds Try.pinned (OpenSpec.ofChange netPlaysSpec)

/-- ITS FALSE NEIGHBOUR: 'it returns false'. Refute it at one input. -/
def netPlaysWrong : ChangeSpec := { name := "netPlays", fn := fun _ => fun
  | [d1, d2] => { results := [.lit (.bool false)], args := [d1, d2] }
  | _ => none }
def NetPlaysWrongFalsely : Prop := netPlaysRow.holds Try.pinned (OpenSpec.ofChange netPlaysWrong)

/-- 'arboretumlaw27.NetNone': WHATEVER THE INPUT: true; the input reads as it did. -/
def netNoneSpec : ChangeSpec := { name := "netNone", fn := fun _ => fun
  | [d] => { results := [.lit (.bool true)], args := [d] }
  | _ => none }
def netNoneRow : OpenClaim := { program := "ythdpajgnigilhaa", sum := "2cb5cdb1c2cb5c572a16bf5380c1581981733c3c6426a61d5b3a70c5045580cb", func := "arboretum/arboretumlaw27.NetNone", spec := "netNone", unfollowed := true, recurses := true, plainKeys := false, apart := false }
def NetNoneSaid : Prop := netNoneRow.holds Try.pinned (OpenSpec.ofChange netNoneSpec)

/-- ITS FALSE NEIGHBOUR: 'it returns false'. Refute it at one input. -/
def netNoneWrong : ChangeSpec := { name := "netNone", fn := fun _ => fun
  | [d] => { results := [.lit (.bool false)], args := [d] }
  | _ => none }
def NetNoneWrongFalsely : Prop := netNoneRow.holds Try.pinned (OpenSpec.ofChange netNoneWrong)

/- THE SECOND FORM. 'bulk': how many values and letters a reading holds, each counted each time it is reached (what is shared counts as often as it is met; a slice's spare places count too). A statement '..UptoSaid' is the law's where the arguments, and the package variables that the reading takes, are together of bulk at most 1048576: NARROWER than '..Said'. Prove '..Said' where nothing that the law and all that it calls make is longer than what came in: it says more and counts as full. Else prove '..UptoSaid'. A law counts once. -/
mutual
def uptoBulk {H : Type} : DataW H → Nat
  | .lit (.string bytes) => bytes.length + 1
  | .lit _ => 1
  | .nil => 1
  | .ptr d => uptoBulk d + 1
  | .slice elems spare => uptoBulkAll elems + uptoBulkAll spare + 1
  | .agg parts => uptoBulkAll parts + 1
  | .iface _ d => uptoBulk d + 1
  | .map entries => uptoBulkEntries entries + 1
  | .held _ => 1
def uptoBulkAll {H : Type} : List (DataW H) → Nat
  | [] => 0
  | d :: r => uptoBulk d + uptoBulkAll r
def uptoBulkEntries {H : Type} : List (Lit × DataW H) → Nat
  | [] => 0
  | x :: r => uptoBulkEntry x + uptoBulkEntries r
def uptoBulkEntry {H : Type} : Lit × DataW H → Nat
  | (.string bytes, d) => bytes.length + uptoBulk d + 1
  | (_, d) => uptoBulk d + 1
 end
def uptoSmall : (H : Type) → List (DataW H) → Bool := fun _ ds => decide (uptoBulkAll ds ≤ 1048576)
def OpenSpec.upto (s : _root_.Go.ChangeSpec) : _root_.Go.OpenSpec := { _root_.Go.OpenSpec.ofChange s with cond := some uptoSmall }

/-- 'arboretumlaw27.NetFull', WHERE WHAT IT READS IS OF BULK AT MOST 1048576: true; the input reads as it did. -/
def netFullUptoRow : OpenClaim := { program := "ythdpajgnigilhaa", sum := "2cb5cdb1c2cb5c572a16bf5380c1581981733c3c6426a61d5b3a70c5045580cb", func := "arboretum/arboretumlaw27.NetFull", spec := "netFull", unfollowed := true, recurses := true, plainKeys := false, apart := false, narrowed := true }
def NetFullUptoSaid : Prop := netFullUptoRow.holds Try.pinned (OpenSpec.upto netFullSpec)

/-- 'arboretumlaw27.NetKeeps', WHERE WHAT IT READS IS OF BULK AT MOST 1048576: true; the input reads as it did. -/
def netKeepsUptoRow : OpenClaim := { program := "ythdpajgnigilhaa", sum := "2cb5cdb1c2cb5c572a16bf5380c1581981733c3c6426a61d5b3a70c5045580cb", func := "arboretum/arboretumlaw27.NetKeeps", spec := "netKeeps", unfollowed := true, recurses := true, plainKeys := false, apart := false, narrowed := true }
def NetKeepsUptoSaid : Prop := netKeepsUptoRow.holds Try.pinned (OpenSpec.upto netKeepsSpec)

/-- 'arboretumlaw27.NetDoubles', WHERE WHAT IT READS IS OF BULK AT MOST 1048576: true; the input reads as it did. -/
def netDoublesUptoRow : OpenClaim := { program := "ythdpajgnigilhaa", sum := "2cb5cdb1c2cb5c572a16bf5380c1581981733c3c6426a61d5b3a70c5045580cb", func := "arboretum/arboretumlaw27.NetDoubles", spec := "netDoubles", unfollowed := true, recurses := true, plainKeys := false, apart := false, narrowed := true }
def NetDoublesUptoSaid : Prop := netDoublesUptoRow.holds Try.pinned (OpenSpec.upto netDoublesSpec)

/-- 'arboretumlaw27.NetPlays', WHERE WHAT IT READS IS OF BULK AT MOST 1048576: true; the input reads as it did. -/
def netPlaysUptoRow : OpenClaim := { program := "ythdpajgnigilhaa", sum := "2cb5cdb1c2cb5c572a16bf5380c1581981733c3c6426a61d5b3a70c5045580cb", func := "arboretum/arboretumlaw27.NetPlays", spec := "netPlays", unfollowed := true, recurses := true, plainKeys := false, apart := false, narrowed := true }
def NetPlaysUptoSaid : Prop := netPlaysUptoRow.holds Try.pinned (OpenSpec.upto netPlaysSpec)

/-- 'arboretumlaw27.NetNone', WHERE WHAT IT READS IS OF BULK AT MOST 1048576: true; the input reads as it did. -/
def netNoneUptoRow : OpenClaim := { program := "ythdpajgnigilhaa", sum := "2cb5cdb1c2cb5c572a16bf5380c1581981733c3c6426a61d5b3a70c5045580cb", func := "arboretum/arboretumlaw27.NetNone", spec := "netNone", unfollowed := true, recurses := true, plainKeys := false, apart := false, narrowed := true }
def NetNoneUptoSaid : Prop := netNoneUptoRow.holds Try.pinned (OpenSpec.upto netNoneSpec)

end Rows
end Go.Proofs.Ythdpajgnigilhaa
