/- RaftTwins: the law's walk, of an argument opened. -/
import Derived.Test.YtaodldagmmephaaGreatB7
import Derived.Test.YtaodldagmmephaaGreatE5
namespace Go.Proofs.YtaodldagmmephaaGreat
open Go.ChangeShapes Go.WideShapes Go.ChangeAt Go.RowKit Go.Deep
namespace RF
set_option maxRecDepth 100000 in
theorem open_lops4 {H : Type} {enc : TypeId × Value → H} {w : World} {fuel : Nat} {p : Option Addr} {len cap : Nat} {x : DataW H × List MemPlace}
    (h : DataW.trod enc Tryz.prog w 0 (fun _ => true) true fuel 80 [.slice p len cap] = some x) : ∃ zs : List OpL, RdG opcells w w.heap.size p len zs ∧ (∀ z ∈ zs, OpOk2 z w) ∧ len ≤ 9223372036854775807 := by
  obtain ⟨zs, h1, h2⟩ := open_lops2 h
  obtain ⟨p', l', c', e, hl, hc, _⟩ := sl_of Tryz.underlying80 h
  injection e with _ e2 e3
  subst e2 e3
  exact ⟨zs, h1, h2, le_max (Nat.le_trans hl hc)⟩
set_option maxRecDepth 100000 in
theorem twins_said (p : Option Addr) (n c : Nat) (zs : List OpL) (w : World) (h : RdG opcells w w.heap.size p n zs ∧ (∀ z ∈ zs, OpOk2 z w) ∧ n ≤ 9223372036854775807) : Calls Tryz.prog 11 #[.slice p n c] w fun e w' => e = .returned (.bool true) ∧ Below w.heap.size w w' := by
  obtain ⟨h1, h2, h3⟩ := h
  have e := h1.1
  subst e
  exact twins_walk p c zs w h1 h2 h3
end RF
end Go.Proofs.YtaodldagmmephaaGreat
