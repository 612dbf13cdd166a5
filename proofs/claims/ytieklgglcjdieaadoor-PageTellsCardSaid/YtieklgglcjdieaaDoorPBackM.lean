/- arboretumlaw4.PageBack: the walk, as the row's frame wants it. -/
import Derived.Test.YtieklgglcjdieaaDoorPBack
import Derived.Test.YtieklgglcjdieaaDoorPageArg
namespace Go.Proofs.YtieklgglcjdieaaDoor
open Go.RowKit
theorem pageBack_row (id kind next : Int) (body : ByteArray) (at' by' : Int) (w : World) (hb : body.size ≤ maxLen) : Calls Tryd.prog 4 #[.int .i64 id, .agg #[.int .i64 kind, .int .i64 next, .string body], .int .i64 at', .int .i64 by'] w fun e w' => e = .returned (.bool true) ∧ Below w.heap.size w w' :=
  pageBack_walk id kind next at' by' body w (by unfold maxLen at hb; omega)
end Go.Proofs.YtieklgglcjdieaaDoor
