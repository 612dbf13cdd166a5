/- arboretumlaw7.PagerKeeps: the walk, with what opens its arguments. -/
import Derived.Test.YtoagbcbkaloacaaGreatDoorGKeeps
import Derived.Test.YtoagbcbkaloacaaGreatDoorOpenI
namespace Go.Proofs.YtoagbcbkaloacaaGreatDoor
open Go.RowKit
theorem keeps_row (pages : Int) (p1 : Option Addr) (n1 c1 : Nat) (ls : List Int) (p2 : Option Addr) (n2 c2 : Nat) (ops : List OpV) (w : World) (h1 : RdI w w.heap.size p1 n1 ls ∧ ∀ z ∈ ls, int64ok z) (h2 : RdG ocells w w.heap.size p2 n2 ops ∧ ∀ z ∈ ops, opok z) :
    Calls Tryz.prog 5 #[.int .i64 pages, .slice p1 n1 c1, .slice p2 n2 c2] w fun e w' => e = .returned (.bool true) ∧ Below w.heap.size w w' :=
  keeps_walk pages p1 p2 n1 c1 n2 c2 ls ops w h1.1 h2.1 h2.2
end Go.Proofs.YtoagbcbkaloacaaGreatDoor
