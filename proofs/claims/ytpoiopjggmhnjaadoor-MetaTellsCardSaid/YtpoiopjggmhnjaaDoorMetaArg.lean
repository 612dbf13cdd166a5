/- A meta as an argument: how it reads. -/
import Derived.Test.YtpoiopjggmhnjaaDoorMAlive
import Derived.OpenShut
import Derived.ShutString
import Derived.ChangeOld
import Derived.Lib.SmallJoins
namespace Go.Proofs.YtpoiopjggmhnjaaDoor
open Go.ChangeShapes Go.WideShapes Go.ChangeAt Go.RowKit Go.Joins
open Go.ChangeMaps (open_string shut_string)

section
variable {H : Type} {enc : TypeId × Value → H} {w : World} {base : Nat} {spare : Nat → Bool} {held : Bool}
theorem meta_cells : Tryd.prog.cellsOf 23 = 4 := by kernel_rfl

set_option maxRecDepth 100000 in
theorem open_meta {r : Reach} {b0 : Nat} {v : Value} {d : DataW H} {p : List MemPlace} (hv : Value.okWide Tryd.prog w r b0 23 v) (h : DataW.Trod enc Tryd.prog w base spare held 23 v d p) :
    ∃ (a b c e : Int), v = .agg #[.int .i64 a, .int .i64 b, .int .i64 c, .int .i64 e] ∧ d = .agg [.lit (.int .i64 a), .lit (.int .i64 b), .lit (.int .i64 c), .lit (.int .i64 e)] ∧ p = [] ∧ (Lit.int .i64 a).wf = true ∧ (Lit.int .i64 b).wf = true ∧ (Lit.int .i64 c).wf = true ∧ (Lit.int .i64 e).wf = true := by
  obtain ⟨c0, c1, c2, c3, y0, y1, y2, y3, m, rfl, rfl, rfl, hy0, hy1, hy2, hy3⟩ := open_agg4 Tryd.underlying23 (by kernel_rfl) meta_cells hv h
  obtain ⟨a, e0, rfl, wa⟩ := DataW.trod_int Tryd.underlying3 hy0
  obtain ⟨b, e1, rfl, wb⟩ := DataW.trod_int Tryd.underlying3 hy1
  obtain ⟨c, e2, rfl, wc⟩ := DataW.trod_int Tryd.underlying3 hy2
  obtain ⟨e, e3, rfl, we⟩ := DataW.trod_int Tryd.underlying3 hy3
  simp at e0 e1 e2 e3
  subst e0 e1 e2 e3
  exact ⟨a, b, c, e, rfl, rfl, rfl, wa, wb, wc, we⟩

set_option maxRecDepth 100000 in
theorem shut_meta {a b c e : Int} (wa : (Lit.int .i64 a).wf = true) (wb : (Lit.int .i64 b).wf = true) (wc : (Lit.int .i64 c).wf = true) (we : (Lit.int .i64 e).wf = true) :
    DataW.Trod enc Tryd.prog w base spare held 23 (.agg #[.int .i64 a, .int .i64 b, .int .i64 c, .int .i64 e]) (.agg [.lit (.int .i64 a), .lit (.int .i64 b), .lit (.int .i64 c), .lit (.int .i64 e)]) [] :=
  shut_agg4 (y0 := (.lit (.int .i64 a), [])) (y1 := (.lit (.int .i64 b), [])) (y2 := (.lit (.int .i64 c), [])) (y3 := (.lit (.int .i64 e), [])) Tryd.underlying23 (by kernel_rfl) meta_cells
    ⟨1, by simp [DataW.trod, Tryd.underlying3, wa]⟩ ⟨1, by simp [DataW.trod, Tryd.underlying3, wb]⟩ ⟨1, by simp [DataW.trod, Tryd.underlying3, wc]⟩ ⟨1, by simp [DataW.trod, Tryd.underlying3, we]⟩
end
end Go.Proofs.YtpoiopjggmhnjaaDoor
