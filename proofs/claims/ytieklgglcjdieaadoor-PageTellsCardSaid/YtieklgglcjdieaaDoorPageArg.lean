/- A page's content as an argument: how it reads. -/
import Derived.Test.YtieklgglcjdieaaDoorPAlive
import Derived.OpenShut
import Derived.ShutString
import Derived.ChangeOld
import Derived.Lib.SmallJoins
namespace Go.Proofs.YtieklgglcjdieaaDoor
open Go.ChangeShapes Go.WideShapes Go.ChangeAt Go.RowKit Go.Joins
open Go.ChangeMaps (open_string shut_string)

section
variable {H : Type} {enc : TypeId × Value → H} {w : World} {base : Nat} {spare : Nat → Bool} {held : Bool}
theorem page_cells : Tryd.prog.cellsOf 23 = 3 := by kernel_rfl

theorem open_page {r : Reach} {b0 : Nat} {v : Value} {d : DataW H} {p : List MemPlace} (hv : Value.okWide Tryd.prog w r b0 23 v) (h : DataW.Trod enc Tryd.prog w base spare held 23 v d p) :
    ∃ (x y : Int) (s : ByteArray), v = .agg #[.int .i64 x, .int .i64 y, .string s] ∧ d = .agg [.lit (.int .i64 x), .lit (.int .i64 y), .lit (.string s.data.toList)] ∧ p = [] ∧ (Lit.int .i64 x).wf = true ∧ (Lit.int .i64 y).wf = true ∧ s.size ≤ maxLen := by
  obtain ⟨c0, c1, c2, y0, y1, y2, m, rfl, rfl, rfl, hy0, hy1, hy2⟩ := open_agg3 Tryd.underlying23 (by kernel_rfl) page_cells hv h
  obtain ⟨x, e0, rfl, wx⟩ := DataW.trod_int Tryd.underlying3 hy0
  obtain ⟨y, e1, rfl, wy⟩ := DataW.trod_int Tryd.underlying3 hy1
  obtain ⟨s, e2, rfl, ws⟩ := DataW.trod_string Tryd.underlying9 hy2
  simp at e0 e1 e2
  subst e0 e1 e2
  exact ⟨x, y, s, rfl, rfl, rfl, wx, wy, ws⟩

theorem shut_page {x y : Int} {s : ByteArray} (wx : (Lit.int .i64 x).wf = true) (wy : (Lit.int .i64 y).wf = true) (ws : s.size ≤ maxLen) :
    DataW.Trod enc Tryd.prog w base spare held 23 (.agg #[.int .i64 x, .int .i64 y, .string s]) (.agg [.lit (.int .i64 x), .lit (.int .i64 y), .lit (.string s.data.toList)]) [] :=
  shut_agg3 (y0 := (.lit (.int .i64 x), [])) (y1 := (.lit (.int .i64 y), [])) (y2 := (.lit (.string s.data.toList), [])) Tryd.underlying23 (by kernel_rfl) page_cells
    ⟨1, by simp [DataW.trod, Tryd.underlying3, wx]⟩ ⟨1, by simp [DataW.trod, Tryd.underlying3, wy]⟩ ⟨1, by simp [DataW.trod, Tryd.underlying9, ws]⟩
end
end Go.Proofs.YtieklgglcjdieaaDoor
