/- arboretumlaw27.NetPlays returns true, whatever its arguments. -/
import Derived.Test.YthdpajgnigilhaaNPlay
namespace Go.Proofs.Ythdpajgnigilhaa
open Go.RowKit

theorem netPlays_walk (z : Bool) (p : Option Addr) (n c : Nat) (os : List NtOp) (w : World) (h : RdG noc w w.heap.size p n os) (hok : ∀ x ∈ os, nok w x) : Calls Try.prog 6 #[.bool z, .slice p n c] w fun e w' => e = .returned (.bool true) ∧ Below w.heap.size w w' := by
  by_cases hn : 150 < n
  · exact nplays_no z p n c w hn
  · exact nplays_go z p n c os w h (fun i hi => hok _ (by
      have hl := h.1
      unfold nopAt
      rw [List.getD_eq_getElem?_getD, List.getElem?_eq_getElem (by omega)]
      exact List.getElem_mem _)) (by omega)
end Go.Proofs.Ythdpajgnigilhaa
