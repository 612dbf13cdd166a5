/- arboretumlaw6.FreeNone: the walk. -/
import Derived.Test.YtedcpckocedcoaaFNone
import Derived.Test.YtedcpckocedcoaaFAlive
namespace Go.Proofs.Ytedcpckocedcoaa
open Go.RowKit
theorem freeNone_walk (k : Int) (w : World) : Calls Try.prog 4 #[.int .i64 k] w fun e w' => e = .returned (.bool true) ∧ Below w.heap.size w w' :=
  freeNone_of (Lib.hid falive_true) k w
end Go.Proofs.Ytedcpckocedcoaa
