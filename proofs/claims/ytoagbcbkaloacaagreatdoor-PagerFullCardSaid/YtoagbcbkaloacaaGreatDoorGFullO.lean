/- arboretumlaw7.PagerFull: the walk, with what opens its argument. -/
import Derived.Test.YtoagbcbkaloacaaGreatDoorGFull
import Derived.Test.YtoagbcbkaloacaaGreatDoorB7
namespace Go.Proofs.YtoagbcbkaloacaaGreatDoor
open Go.RowKit
theorem pagerFull_row (most kind next : Int) (body : ByteArray) (w : World) (hb : body.size ≤ maxLen) : Calls Tryz.prog 3 #[.int .i64 most, .agg #[.int .i64 kind, .int .i64 next, .string body]] w fun e w' => e = .returned (.bool true) ∧ Below w.heap.size w w' :=
  pagerFull_walk most kind next body w hb
end Go.Proofs.YtoagbcbkaloacaaGreatDoor
