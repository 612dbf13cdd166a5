/- The walk of ReadOrders beside its arguments' opening. -/
import Derived.Test.YtjpmebfegpmccaaOrders
import Derived.Test.YtjpmebfegpmccaaROpen
namespace Go.Proofs.Ytjpmebfegpmccaa
open Go.ChangeShapes Go.WideShapes Go.ChangeAt Go.RowKit Go.Deep

theorem elem_int {H : Type} {enc : TypeId × Value → H} {w : World} : ∀ n cs' y, DataW.trod enc Try.prog w 0 (fun _ => true) true n 3 cs' = some y → ∃ x : Int, cs' = ncells x ∧ i64ok x := by
  intro n cs' y h
  obtain ⟨x, c, _, hw⟩ := DataW.trod_int Try.underlying3 h
  exact ⟨x, c, hw⟩

theorem rdI_of_rdG {w : World} {B n : Nat} {p : Option Addr} {zs : List Int} (h : RdG ncells w B p n zs) : RdI w B p n zs := by
  refine ⟨h.1, fun hn => ?_⟩
  obtain ⟨b, o, e, hb, hc⟩ := h.2 hn
  refine ⟨b, o, e, hb, fun k hk => ?_⟩
  have r0 := rowOf_at ncells ncells_length zs k 0 (by have := h.1; omega) (by omega)
  rw [Nat.mul_one, Nat.add_zero] at r0
  exact hc k _ r0

theorem open_ints {H : Type} {enc : TypeId × Value → H} {w : World} {fuel : Nat} {p : Option Addr} {len cap : Nat} {x : DataW H × List MemPlace}
    (h : DataW.trod enc Try.prog w 0 (fun _ => true) true fuel 27 [.slice p len cap] = some x) : ∃ zs : List Int, RdI w w.heap.size p len zs ∧ ∀ z ∈ zs, i64ok z := by
  obtain ⟨zs, h1, h2⟩ := open_rows ncells ncells_length (by omega) i64ok Try.underlying27 (by kernel_rfl) elem_int h
  exact ⟨zs, rdI_of_rdG h1, h2⟩
end Go.Proofs.Ytjpmebfegpmccaa
