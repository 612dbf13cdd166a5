/- arboretumlaw21.ReadPlays returns true, whatever its arguments. -/
import Derived.Test.YtjpmebfegpmccaaGreatRPlay
import Derived.Test.YtjpmebfegpmccaaGreatRPlayT
namespace Go.Proofs.YtjpmebfegpmccaaGreat
open Go.RowKit

theorem readPlays_walk (z : Bool) (p : Option Addr) (n c : Nat) (os : List RdOp) (w : World) (h : RdG opc w w.heap.size p n os) (hok : ∀ x ∈ os, opok w x) : Calls Tryz.prog 3 #[.bool z, .slice p n c] w fun e w' => e = .returned (.bool true) ∧ Below w.heap.size w w' := by
  by_cases hn : 120 < n
  · exact plays_no z p n c w hn
  · have hk : ∀ i, i < n → opok w (opAt os i) := fun i hi => hok _ (by
      have hl := h.1
      unfold opAt
      rw [List.getD_eq_getElem?_getD, List.getElem?_eq_getElem (by omega)]
      exact List.getElem_mem _)
    cases z with
    | true => exact plays_true p n c os w h hk (by omega)
    | false => exact plays_false p n c os w h hk (by omega)
end Go.Proofs.YtjpmebfegpmccaaGreat
