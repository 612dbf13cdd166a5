/- arboretumlaw4.PageTells: the walk, with the frame's argument. -/
import Derived.Test.YtieklgglcjdieaaDoorPTellsO
import Derived.Test.YtieklgglcjdieaaDoorPBackM
namespace Go.Proofs.YtieklgglcjdieaaDoor
open Go.RowKit
theorem pageTells_row (id kind next : Int) (body b : ByteArray) (at' by' : Int) (own : Bool) (w : World) (hb : body.size ≤ maxLen) (hb2 : b.size ≤ maxLen) : Calls Tryd.prog 3 #[.int .i64 id, .agg #[.int .i64 kind, .int .i64 next, .string body], .string b, .int .i64 at', .int .i64 by', .bool own] w fun e w' => e = .returned (.bool true) ∧ Below w.heap.size w w' :=
  pageTells_walk id kind next at' by' own body b w (by unfold maxLen at hb; omega) (by unfold maxLen at hb2; omega)
end Go.Proofs.YtieklgglcjdieaaDoor
