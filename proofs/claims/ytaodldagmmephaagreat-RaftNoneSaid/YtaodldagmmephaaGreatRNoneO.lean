/- RaftNone: the law's walk, of an argument opened. -/
import Derived.Test.YtaodldagmmephaaGreatB7
import Derived.Test.YtaodldagmmephaaGreatRw3
namespace Go.Proofs.YtaodldagmmephaaGreat
open Go.ChangeShapes Go.WideShapes Go.ChangeAt Go.RowKit Go.Deep
namespace RF
set_option maxRecDepth 100000 in
theorem open_none {H : Type} {enc : TypeId × Value → H} {w : World} {r : Reach} {b0 : Nat} {v : Value} {d : DataW H} {p : List MemPlace} (hv : Value.okWide Tryz.prog w r b0 83 v)
    (h : DataW.Trod enc Tryz.prog w 0 (fun _ => true) true 83 v d p) : ∃ o : OpL, v = opval o ∧ OpOk o w := by
  obtain ⟨o, e, k⟩ := open_lop hv h
  exact ⟨o, e, k⟩
set_option maxRecDepth 100000 in
theorem none_said (o : OpL) (w : World) (h : OpOk o w) : Calls Tryz.prog 12 #[opval o] w fun e w' => e = .returned (.bool true) ∧ Below w.heap.size w w' := none_walk o w h.msg.at' h.sizes
end RF
end Go.Proofs.YtaodldagmmephaaGreat
