/- The argument []int opened: each number's bounds, too. -/
import Derived.Test.YtoagbcbkaloacaaGreatDoorOpen
namespace Go.Proofs.YtoagbcbkaloacaaGreatDoor
open Go.ChangeShapes Go.WideShapes Go.ChangeAt Go.RowKit Go.Deep

def int64ok (n : Int) : Prop := (Lit.int .i64 n).wf = true

theorem elem_int {H : Type} {enc : TypeId × Value → H} {w : World} : ∀ n cs' y, DataW.trod enc Tryz.prog w 0 (fun _ => true) true n 3 cs' = some y → ∃ x : Int, cs' = ncells x ∧ int64ok x := by
  intro n cs' y h
  obtain ⟨x0, c0, _, w0⟩ := DataW.trod_int Tryz.underlying3 h
  exact ⟨x0, c0, w0⟩

theorem rdI_of {w : World} {B n : Nat} {p : Option Addr} {zs : List Int} (h : RdG ncells w B p n zs) : RdI w B p n zs := by
  refine ⟨h.1, fun hn => ?_⟩
  obtain ⟨b, o, e, hb, hc⟩ := h.2 hn
  refine ⟨b, o, e, hb, fun j hj => hc j _ ?_⟩
  have hl : j < zs.length := by rw [h.1]; exact hj
  have r0 := rowOf_at ncells ncells_length zs j 0 hl (by omega)
  rw [Nat.mul_one, Nat.add_zero] at r0
  exact r0

theorem open_intz {H : Type} {enc : TypeId × Value → H} {w : World} {fuel : Nat} {p : Option Addr} {len cap : Nat} {x : DataW H × List MemPlace}
    (h : DataW.trod enc Tryz.prog w 0 (fun _ => true) true fuel 38 [.slice p len cap] = some x) : ∃ zs : List Int, RdI w w.heap.size p len zs ∧ ∀ z ∈ zs, int64ok z := by
  obtain ⟨zs, h1, h2⟩ := open_rows ncells ncells_length (by omega) int64ok Tryz.underlying38 (by kernel_rfl) elem_int h
  exact ⟨zs, rdI_of h1, h2⟩
end Go.Proofs.YtoagbcbkaloacaaGreatDoor
