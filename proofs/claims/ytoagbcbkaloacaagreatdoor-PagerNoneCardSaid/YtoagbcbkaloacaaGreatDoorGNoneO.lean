/- arboretumlaw7.PagerNone: the walk, with what opens its argument. -/
import Derived.Test.YtoagbcbkaloacaaGreatDoorGNone
import Derived.Test.YtoagbcbkaloacaaGreatDoorB7
namespace Go.Proofs.YtoagbcbkaloacaaGreatDoor
open Go.RowKit
theorem pagerNone_row (n kind next : Int) (body : ByteArray) (w : World) : Calls Tryz.prog 6 #[.int .i64 n, .agg #[.int .i64 kind, .int .i64 next, .string body]] w fun e w' => e = .returned (.bool true) ∧ Below w.heap.size w w' :=
  pagerNone_walk n kind next body w
end Go.Proofs.YtoagbcbkaloacaaGreatDoor
