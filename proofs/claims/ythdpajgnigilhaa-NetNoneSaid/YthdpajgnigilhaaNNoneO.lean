/- arboretumlaw27.NetNone: the walk. -/
import Derived.Test.YthdpajgnigilhaaNNone
import Derived.Test.YthdpajgnigilhaaNetU
namespace Go.Proofs.Ythdpajgnigilhaa
open Go.RowKit
theorem netNone_walk (k : Int) (w : World) :
    Calls Try.prog 7 #[.int .i64 k] w fun e w' => e = .returned (.bool true) ∧ Below w.heap.size w w' := netNone_of (Lib.hid alive_true) k w
end Go.Proofs.Ythdpajgnigilhaa
