/- RaftDown: the law's walk, of an argument opened. -/
import Derived.Test.YtaodldagmmephaaGreatRd2
namespace Go.Proofs.YtaodldagmmephaaGreat
open Go.ChangeShapes Go.WideShapes Go.ChangeAt Go.RowKit Go.Deep
namespace RF
theorem down_said (n : Int) (z : Mg × Mx) (w : World) (h : MsgOk z.1 z.2 w) : Calls Tryz.prog 7 #[.int .i64 n, .agg (mxcells z.1 z.2).toArray] w fun e w' => e = .returned (.bool true) ∧ Below w.heap.size w w' := down_walk n z.1 z.2 w h
end RF
end Go.Proofs.YtaodldagmmephaaGreat
