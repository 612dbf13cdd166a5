/-
  No cell of these rows narrows 'for every input' (looked for: loops, veiled, ifaces, maps, wideKeys, modest, calm, conditions, laid).
  DERIVED. THE GIVEN ROWS OF THIS SEAT. 10 by the template 'for every input the law returns true; each argument reads behind the call as it read before'; 0 by the template 'total and deterministic' (their statements: YtaodldagmmephaaGreatTotals.lean).
  GIVEN WITH THE SEED: the statements are not yours to turn. If you find one false, say at which input.
  Laid BY PROGRAM, IN A SANDBOX (cutbox-rows.mjs): the forced cells as the released guide's own fill.sh prints them over the translation f4f2e90e93197d89… (all of the seat's roots in one cut). By AI agents, Wed Nov 11 2026. No macro, syntax, notation, axiom, sorry.
-/
import Derived.Test.YtaodldagmmephaaGreatChecked
import GoSem.Claim
import GoSem.ClaimJoined
import GoSem.ClaimMapViews
import Derived.JoinedTies
import Derived.KernelRfl
namespace Go.Proofs.YtaodldagmmephaaGreat
/- THE CELL 'sum', in the pinned program and in every row, IS THE sha256 OF THE DUMP (.gsa) THAT YtaodldagmmephaaGreatProg.lean LOADS. Nothing in Lean hashes anything: it is a label: what it is worth is what the hold of that sum in a sandbox is worth. -/
noncomputable def Tryz.pinned : Pinned := { name := "ytaodldagmmephaagreat", sum := "f4f2e90e93197d890477d2c6d28b93fd0474deb28fdd4173fe939d3ff97c3d81", checked := Tryz.checked }
namespace Rows
def none {H : Type} : Left H := { results := [], args := [] }

/-- 'arboretumlaw20.RaftMoves': WHATEVER THE INPUT: true; the input reads as it did. -/
def raftMovesSpec : ChangeSpec := { name := "raftMoves", fn := fun _ => fun
  | [d1, d2, d3, d4, d5] => { results := [.lit (.bool true)], args := [d1, d2, d3, d4, d5] }
  | _ => none }
def raftMovesRow : OpenClaim := { program := "ytaodldagmmephaagreat", sum := "f4f2e90e93197d890477d2c6d28b93fd0474deb28fdd4173fe939d3ff97c3d81", func := "arboretum/arboretumlaw20.RaftMoves", spec := "raftMoves", unfollowed := true, recurses := true, apart := false }
def RaftMovesSaid : Prop := raftMovesRow.holds Tryz.pinned (OpenSpec.ofChange raftMovesSpec)

/-- ITS FALSE NEIGHBOUR: 'it returns false'. Refute it at one input. -/
def raftMovesWrong : ChangeSpec := { name := "raftMoves", fn := fun _ => fun
  | [d1, d2, d3, d4, d5] => { results := [.lit (.bool false)], args := [d1, d2, d3, d4, d5] }
  | _ => none }
def RaftMovesWrongFalsely : Prop := raftMovesRow.holds Tryz.pinned (OpenSpec.ofChange raftMovesWrong)

/-- 'arboretumlaw20.RaftVotes': WHATEVER THE INPUT: true; the input reads as it did. -/
def raftVotesSpec : ChangeSpec := { name := "raftVotes", fn := fun _ => fun
  | [d1, d2, d3] => { results := [.lit (.bool true)], args := [d1, d2, d3] }
  | _ => none }
def raftVotesRow : OpenClaim := { program := "ytaodldagmmephaagreat", sum := "f4f2e90e93197d890477d2c6d28b93fd0474deb28fdd4173fe939d3ff97c3d81", func := "arboretum/arboretumlaw20.RaftVotes", spec := "raftVotes", unfollowed := true, recurses := true, apart := false }
def RaftVotesSaid : Prop := raftVotesRow.holds Tryz.pinned (OpenSpec.ofChange raftVotesSpec)

/-- ITS FALSE NEIGHBOUR: 'it returns false'. Refute it at one input. -/
def raftVotesWrong : ChangeSpec := { name := "raftVotes", fn := fun _ => fun
  | [d1, d2, d3] => { results := [.lit (.bool false)], args := [d1, d2, d3] }
  | _ => none }
def RaftVotesWrongFalsely : Prop := raftVotesRow.holds Tryz.pinned (OpenSpec.ofChange raftVotesWrong)

/-- 'arboretumlaw20.RaftCommits': WHATEVER THE INPUT: true; the input reads as it did. -/
def raftCommitsSpec : ChangeSpec := { name := "raftCommits", fn := fun _ => fun
  | [d1, d2, d3] => { results := [.lit (.bool true)], args := [d1, d2, d3] }
  | _ => none }
def raftCommitsRow : OpenClaim := { program := "ytaodldagmmephaagreat", sum := "f4f2e90e93197d890477d2c6d28b93fd0474deb28fdd4173fe939d3ff97c3d81", func := "arboretum/arboretumlaw20.RaftCommits", spec := "raftCommits", unfollowed := true, recurses := true, apart := false }
def RaftCommitsSaid : Prop := raftCommitsRow.holds Tryz.pinned (OpenSpec.ofChange raftCommitsSpec)

/-- ITS FALSE NEIGHBOUR: 'it returns false'. Refute it at one input. -/
def raftCommitsWrong : ChangeSpec := { name := "raftCommits", fn := fun _ => fun
  | [d1, d2, d3] => { results := [.lit (.bool false)], args := [d1, d2, d3] }
  | _ => none }
def RaftCommitsWrongFalsely : Prop := raftCommitsRow.holds Tryz.pinned (OpenSpec.ofChange raftCommitsWrong)

/-- 'arboretumlaw20.RaftChanges': WHATEVER THE INPUT: true; the input reads as it did. -/
def raftChangesSpec : ChangeSpec := { name := "raftChanges", fn := fun _ => fun
  | [d1, d2] => { results := [.lit (.bool true)], args := [d1, d2] }
  | _ => none }
def raftChangesRow : OpenClaim := { program := "ytaodldagmmephaagreat", sum := "f4f2e90e93197d890477d2c6d28b93fd0474deb28fdd4173fe939d3ff97c3d81", func := "arboretum/arboretumlaw20.RaftChanges", spec := "raftChanges", unfollowed := true, recurses := true, apart := false }
def RaftChangesSaid : Prop := raftChangesRow.holds Tryz.pinned (OpenSpec.ofChange raftChangesSpec)

/-- ITS FALSE NEIGHBOUR: 'it returns false'. Refute it at one input. -/
def raftChangesWrong : ChangeSpec := { name := "raftChanges", fn := fun _ => fun
  | [d1, d2] => { results := [.lit (.bool false)], args := [d1, d2] }
  | _ => none }
def RaftChangesWrongFalsely : Prop := raftChangesRow.holds Tryz.pinned (OpenSpec.ofChange raftChangesWrong)

/-- 'arboretumlaw20.RaftDown': WHATEVER THE INPUT: true; the input reads as it did. -/
def raftDownSpec : ChangeSpec := { name := "raftDown", fn := fun _ => fun
  | [d1, d2] => { results := [.lit (.bool true)], args := [d1, d2] }
  | _ => none }
def raftDownRow : OpenClaim := { program := "ytaodldagmmephaagreat", sum := "f4f2e90e93197d890477d2c6d28b93fd0474deb28fdd4173fe939d3ff97c3d81", func := "arboretum/arboretumlaw20.RaftDown", spec := "raftDown", unfollowed := true, recurses := true, apart := false }
def RaftDownSaid : Prop := raftDownRow.holds Tryz.pinned (OpenSpec.ofChange raftDownSpec)

/-- ITS FALSE NEIGHBOUR: 'it returns false'. Refute it at one input. -/
def raftDownWrong : ChangeSpec := { name := "raftDown", fn := fun _ => fun
  | [d1, d2] => { results := [.lit (.bool false)], args := [d1, d2] }
  | _ => none }
def RaftDownWrongFalsely : Prop := raftDownRow.holds Tryz.pinned (OpenSpec.ofChange raftDownWrong)

/-- 'arboretumlaw20.RaftElects': WHATEVER THE INPUT: true; the input reads as it did. -/
def raftElectsSpec : ChangeSpec := { name := "raftElects", fn := fun _ => fun
  | [d1, d2] => { results := [.lit (.bool true)], args := [d1, d2] }
  | _ => none }
def raftElectsRow : OpenClaim := { program := "ytaodldagmmephaagreat", sum := "f4f2e90e93197d890477d2c6d28b93fd0474deb28fdd4173fe939d3ff97c3d81", func := "arboretum/arboretumlaw20.RaftElects", spec := "raftElects", unfollowed := true, recurses := true, apart := false }
def RaftElectsSaid : Prop := raftElectsRow.holds Tryz.pinned (OpenSpec.ofChange raftElectsSpec)

/-- ITS FALSE NEIGHBOUR: 'it returns false'. Refute it at one input. -/
def raftElectsWrong : ChangeSpec := { name := "raftElects", fn := fun _ => fun
  | [d1, d2] => { results := [.lit (.bool false)], args := [d1, d2] }
  | _ => none }
def RaftElectsWrongFalsely : Prop := raftElectsRow.holds Tryz.pinned (OpenSpec.ofChange raftElectsWrong)

/-- 'arboretumlaw20.RaftReads': WHATEVER THE INPUT: true; the input reads as it did. -/
def raftReadsSpec : ChangeSpec := { name := "raftReads", fn := fun _ => fun
  | [d1, d2, d3] => { results := [.lit (.bool true)], args := [d1, d2, d3] }
  | _ => none }
def raftReadsRow : OpenClaim := { program := "ytaodldagmmephaagreat", sum := "f4f2e90e93197d890477d2c6d28b93fd0474deb28fdd4173fe939d3ff97c3d81", func := "arboretum/arboretumlaw20.RaftReads", spec := "raftReads", unfollowed := true, recurses := true, apart := false }
def RaftReadsSaid : Prop := raftReadsRow.holds Tryz.pinned (OpenSpec.ofChange raftReadsSpec)

/-- ITS FALSE NEIGHBOUR: 'it returns false'. Refute it at one input. -/
def raftReadsWrong : ChangeSpec := { name := "raftReads", fn := fun _ => fun
  | [d1, d2, d3] => { results := [.lit (.bool false)], args := [d1, d2, d3] }
  | _ => none }
def RaftReadsWrongFalsely : Prop := raftReadsRow.holds Tryz.pinned (OpenSpec.ofChange raftReadsWrong)

/-- 'arboretumlaw20.RaftTells': WHATEVER THE INPUT: true; the input reads as it did. -/
def raftTellsSpec : ChangeSpec := { name := "raftTells", fn := fun _ => fun
  | [d] => { results := [.lit (.bool true)], args := [d] }
  | _ => none }
def raftTellsRow : OpenClaim := { program := "ytaodldagmmephaagreat", sum := "f4f2e90e93197d890477d2c6d28b93fd0474deb28fdd4173fe939d3ff97c3d81", func := "arboretum/arboretumlaw20.RaftTells", spec := "raftTells", unfollowed := true, recurses := true, apart := false }
def RaftTellsSaid : Prop := raftTellsRow.holds Tryz.pinned (OpenSpec.ofChange raftTellsSpec)

/-- ITS FALSE NEIGHBOUR: 'it returns false'. Refute it at one input. -/
def raftTellsWrong : ChangeSpec := { name := "raftTells", fn := fun _ => fun
  | [d] => { results := [.lit (.bool false)], args := [d] }
  | _ => none }
def RaftTellsWrongFalsely : Prop := raftTellsRow.holds Tryz.pinned (OpenSpec.ofChange raftTellsWrong)

/-- 'arboretumlaw20.RaftTwins': WHATEVER THE INPUT: true; the input reads as it did. -/
def raftTwinsSpec : ChangeSpec := { name := "raftTwins", fn := fun _ => fun
  | [d] => { results := [.lit (.bool true)], args := [d] }
  | _ => none }
def raftTwinsRow : OpenClaim := { program := "ytaodldagmmephaagreat", sum := "f4f2e90e93197d890477d2c6d28b93fd0474deb28fdd4173fe939d3ff97c3d81", func := "arboretum/arboretumlaw20.RaftTwins", spec := "raftTwins", unfollowed := true, recurses := true, apart := false }
def RaftTwinsSaid : Prop := raftTwinsRow.holds Tryz.pinned (OpenSpec.ofChange raftTwinsSpec)

/-- ITS FALSE NEIGHBOUR: 'it returns false'. Refute it at one input. -/
def raftTwinsWrong : ChangeSpec := { name := "raftTwins", fn := fun _ => fun
  | [d] => { results := [.lit (.bool false)], args := [d] }
  | _ => none }
def RaftTwinsWrongFalsely : Prop := raftTwinsRow.holds Tryz.pinned (OpenSpec.ofChange raftTwinsWrong)

/-- 'arboretumlaw20.RaftNone': WHATEVER THE INPUT: true; the input reads as it did. -/
def raftNoneSpec : ChangeSpec := { name := "raftNone", fn := fun _ => fun
  | [d] => { results := [.lit (.bool true)], args := [d] }
  | _ => none }
def raftNoneRow : OpenClaim := { program := "ytaodldagmmephaagreat", sum := "f4f2e90e93197d890477d2c6d28b93fd0474deb28fdd4173fe939d3ff97c3d81", func := "arboretum/arboretumlaw20.RaftNone", spec := "raftNone", unfollowed := true, recurses := true, apart := false }
def RaftNoneSaid : Prop := raftNoneRow.holds Tryz.pinned (OpenSpec.ofChange raftNoneSpec)

/-- ITS FALSE NEIGHBOUR: 'it returns false'. Refute it at one input. -/
def raftNoneWrong : ChangeSpec := { name := "raftNone", fn := fun _ => fun
  | [d] => { results := [.lit (.bool false)], args := [d] }
  | _ => none }
def RaftNoneWrongFalsely : Prop := raftNoneRow.holds Tryz.pinned (OpenSpec.ofChange raftNoneWrong)

/- THE SECOND FORM. 'bulk': how many values and letters a reading holds, each counted each time it is reached (what is shared counts as often as it is met; a slice's spare places count too). A statement '..UptoSaid' is the law's where the arguments, and the package variables that the reading takes, are together of bulk at most 1048576: NARROWER than '..Said'. Prove '..Said' where nothing that the law and all that it calls make is longer than what came in: it says more and counts as full. Else prove '..UptoSaid'. A law counts once. -/
mutual
def uptoBulk {H : Type} : DataW H → Nat
  | .lit (.string bytes) => bytes.length + 1
  | .lit _ => 1
  | .nil => 1
  | .ptr d => uptoBulk d + 1
  | .slice elems spare => uptoBulkAll elems + uptoBulkAll spare + 1
  | .agg parts => uptoBulkAll parts + 1
  | .iface _ d => uptoBulk d + 1
  | .map entries => uptoBulkEntries entries + 1
  | .held _ => 1
def uptoBulkAll {H : Type} : List (DataW H) → Nat
  | [] => 0
  | d :: r => uptoBulk d + uptoBulkAll r
def uptoBulkEntries {H : Type} : List (Lit × DataW H) → Nat
  | [] => 0
  | x :: r => uptoBulkEntry x + uptoBulkEntries r
def uptoBulkEntry {H : Type} : Lit × DataW H → Nat
  | (.string bytes, d) => bytes.length + uptoBulk d + 1
  | (_, d) => uptoBulk d + 1
 end
def uptoSmall : (H : Type) → List (DataW H) → Bool := fun _ ds => decide (uptoBulkAll ds ≤ 1048576)
def OpenSpec.upto (s : _root_.Go.ChangeSpec) : _root_.Go.OpenSpec := { _root_.Go.OpenSpec.ofChange s with cond := some uptoSmall }

/-- 'arboretumlaw20.RaftMoves', WHERE WHAT IT READS IS OF BULK AT MOST 1048576: true; the input reads as it did. -/
def raftMovesUptoRow : OpenClaim := { program := "ytaodldagmmephaagreat", sum := "f4f2e90e93197d890477d2c6d28b93fd0474deb28fdd4173fe939d3ff97c3d81", func := "arboretum/arboretumlaw20.RaftMoves", spec := "raftMoves", unfollowed := true, recurses := true, apart := false, narrowed := true }
def RaftMovesUptoSaid : Prop := raftMovesUptoRow.holds Tryz.pinned (OpenSpec.upto raftMovesSpec)

/-- 'arboretumlaw20.RaftVotes', WHERE WHAT IT READS IS OF BULK AT MOST 1048576: true; the input reads as it did. -/
def raftVotesUptoRow : OpenClaim := { program := "ytaodldagmmephaagreat", sum := "f4f2e90e93197d890477d2c6d28b93fd0474deb28fdd4173fe939d3ff97c3d81", func := "arboretum/arboretumlaw20.RaftVotes", spec := "raftVotes", unfollowed := true, recurses := true, apart := false, narrowed := true }
def RaftVotesUptoSaid : Prop := raftVotesUptoRow.holds Tryz.pinned (OpenSpec.upto raftVotesSpec)

/-- 'arboretumlaw20.RaftCommits', WHERE WHAT IT READS IS OF BULK AT MOST 1048576: true; the input reads as it did. -/
def raftCommitsUptoRow : OpenClaim := { program := "ytaodldagmmephaagreat", sum := "f4f2e90e93197d890477d2c6d28b93fd0474deb28fdd4173fe939d3ff97c3d81", func := "arboretum/arboretumlaw20.RaftCommits", spec := "raftCommits", unfollowed := true, recurses := true, apart := false, narrowed := true }
def RaftCommitsUptoSaid : Prop := raftCommitsUptoRow.holds Tryz.pinned (OpenSpec.upto raftCommitsSpec)

/-- 'arboretumlaw20.RaftChanges', WHERE WHAT IT READS IS OF BULK AT MOST 1048576: true; the input reads as it did. -/
def raftChangesUptoRow : OpenClaim := { program := "ytaodldagmmephaagreat", sum := "f4f2e90e93197d890477d2c6d28b93fd0474deb28fdd4173fe939d3ff97c3d81", func := "arboretum/arboretumlaw20.RaftChanges", spec := "raftChanges", unfollowed := true, recurses := true, apart := false, narrowed := true }
def RaftChangesUptoSaid : Prop := raftChangesUptoRow.holds Tryz.pinned (OpenSpec.upto raftChangesSpec)

/-- 'arboretumlaw20.RaftDown', WHERE WHAT IT READS IS OF BULK AT MOST 1048576: true; the input reads as it did. -/
def raftDownUptoRow : OpenClaim := { program := "ytaodldagmmephaagreat", sum := "f4f2e90e93197d890477d2c6d28b93fd0474deb28fdd4173fe939d3ff97c3d81", func := "arboretum/arboretumlaw20.RaftDown", spec := "raftDown", unfollowed := true, recurses := true, apart := false, narrowed := true }
def RaftDownUptoSaid : Prop := raftDownUptoRow.holds Tryz.pinned (OpenSpec.upto raftDownSpec)

/-- 'arboretumlaw20.RaftElects', WHERE WHAT IT READS IS OF BULK AT MOST 1048576: true; the input reads as it did. -/
def raftElectsUptoRow : OpenClaim := { program := "ytaodldagmmephaagreat", sum := "f4f2e90e93197d890477d2c6d28b93fd0474deb28fdd4173fe939d3ff97c3d81", func := "arboretum/arboretumlaw20.RaftElects", spec := "raftElects", unfollowed := true, recurses := true, apart := false, narrowed := true }
def RaftElectsUptoSaid : Prop := raftElectsUptoRow.holds Tryz.pinned (OpenSpec.upto raftElectsSpec)

/-- 'arboretumlaw20.RaftReads', WHERE WHAT IT READS IS OF BULK AT MOST 1048576: true; the input reads as it did. -/
def raftReadsUptoRow : OpenClaim := { program := "ytaodldagmmephaagreat", sum := "f4f2e90e93197d890477d2c6d28b93fd0474deb28fdd4173fe939d3ff97c3d81", func := "arboretum/arboretumlaw20.RaftReads", spec := "raftReads", unfollowed := true, recurses := true, apart := false, narrowed := true }
def RaftReadsUptoSaid : Prop := raftReadsUptoRow.holds Tryz.pinned (OpenSpec.upto raftReadsSpec)

/-- 'arboretumlaw20.RaftTells', WHERE WHAT IT READS IS OF BULK AT MOST 1048576: true; the input reads as it did. -/
def raftTellsUptoRow : OpenClaim := { program := "ytaodldagmmephaagreat", sum := "f4f2e90e93197d890477d2c6d28b93fd0474deb28fdd4173fe939d3ff97c3d81", func := "arboretum/arboretumlaw20.RaftTells", spec := "raftTells", unfollowed := true, recurses := true, apart := false, narrowed := true }
def RaftTellsUptoSaid : Prop := raftTellsUptoRow.holds Tryz.pinned (OpenSpec.upto raftTellsSpec)

/-- 'arboretumlaw20.RaftTwins', WHERE WHAT IT READS IS OF BULK AT MOST 1048576: true; the input reads as it did. -/
def raftTwinsUptoRow : OpenClaim := { program := "ytaodldagmmephaagreat", sum := "f4f2e90e93197d890477d2c6d28b93fd0474deb28fdd4173fe939d3ff97c3d81", func := "arboretum/arboretumlaw20.RaftTwins", spec := "raftTwins", unfollowed := true, recurses := true, apart := false, narrowed := true }
def RaftTwinsUptoSaid : Prop := raftTwinsUptoRow.holds Tryz.pinned (OpenSpec.upto raftTwinsSpec)

/-- 'arboretumlaw20.RaftNone', WHERE WHAT IT READS IS OF BULK AT MOST 1048576: true; the input reads as it did. -/
def raftNoneUptoRow : OpenClaim := { program := "ytaodldagmmephaagreat", sum := "f4f2e90e93197d890477d2c6d28b93fd0474deb28fdd4173fe939d3ff97c3d81", func := "arboretum/arboretumlaw20.RaftNone", spec := "raftNone", unfollowed := true, recurses := true, apart := false, narrowed := true }
def RaftNoneUptoSaid : Prop := raftNoneUptoRow.holds Tryz.pinned (OpenSpec.upto raftNoneSpec)

end Rows
end Go.Proofs.YtaodldagmmephaaGreat
