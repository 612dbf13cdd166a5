/- arboretumlaw6.FreePlays returns true, whatever its arguments. -/
import Derived.Test.YtedcpckocedcoaaGreatFPlay
namespace Go.Proofs.YtedcpckocedcoaaGreat
open Go.ChangeShapes Go.WideShapes Go.ChangeAt Go.RowKit Go.Deep

set_option maxRecDepth 100000 in
theorem open_intsC {H : Type} {enc : TypeId × Value → H} {w : World} {fuel : Nat} {p : Option Addr} {len cap : Nat} {x : DataW H × List MemPlace}
    (h : DataW.trod enc Tryz.prog w 0 (fun _ => true) true fuel 22 [.slice p len cap] = some x) : ∃ zs : List Int, RdI w w.heap.size p len zs ∧ (p = none → cap = 0) := by
  obtain ⟨zs, hr⟩ := open_intsI h
  refine ⟨zs, hr, ?_⟩
  rcases open_slice Tryz.underlying22 h with ⟨hcs, _⟩ | ⟨a, len', cap', m', n', D, Pl, hcs, _⟩
  · injection hcs with hcs _
    injection hcs with _ _ hcs
    exact fun _ => hcs
  · injection hcs with hcs _
    injection hcs with hcs _ _
    intro e
    rw [e] at hcs
    cases hcs

theorem freePlays_walk (p : Option Addr) (n c : Nat) (zs : List Int) (z : Bool) (q : Option Addr) (m d : Nat) (os : List FrOp) (w : World) (h : RdI w w.heap.size p n zs) (hp0 : p = none → c = 0) (h2 : RdG foc w w.heap.size q m os) (hok : ∀ x ∈ os, fok w x) :
    Calls Tryz.prog 3 #[.slice p n c, .bool z, .slice q m d] w fun e w' => e = .returned (.bool true) ∧ Below w.heap.size w w' := by
  by_cases hn : 100 < n ∨ 150 < m
  · exact fplays_no z p q n c m d w hn
  · have hk : ∀ i, i < m → fok w (fopAt os i) := fun i hi => hok _ (by
      have hl := h2.1
      unfold fopAt
      rw [List.getD_eq_getElem?_getD, List.getElem?_eq_getElem (by omega)]
      exact List.getElem_mem _)
    exact fplays_go z p q n c m d zs os w h hp0 h2 hk (by omega) (by omega)
end Go.Proofs.YtedcpckocedcoaaGreat
