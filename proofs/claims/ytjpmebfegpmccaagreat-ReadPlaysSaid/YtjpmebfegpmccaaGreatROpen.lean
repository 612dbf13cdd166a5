/- The argument []read.Read opened. -/
import Derived.Test.YtjpmebfegpmccaaGreatOpen
import Derived.Test.YtjpmebfegpmccaaGreatQueue
namespace Go.Proofs.YtjpmebfegpmccaaGreat
open Go.ChangeShapes Go.WideShapes Go.ChangeAt Go.RowKit Go.Deep

theorem three_of {l : List Value} (h : l.length = 3) : ∃ a b c, l = [a, b, c] := by
  match l, h with
  | [a, b, c], _ => exact ⟨a, b, c, rfl⟩

def i64ok (n : Int) : Prop := (Lit.int .i64 n).wf = true
def rdok (x : Rd) : Prop := i64ok x.1 ∧ i64ok x.2.1 ∧ i64ok x.2.2

set_option maxRecDepth 100000 in
theorem elem_read {H : Type} {enc : TypeId × Value → H} {w : World} : ∀ n cs' y, DataW.trod enc Tryz.prog w 0 (fun _ => true) true n 52 cs' = some y → ∃ x : Rd, cs' = rcells x ∧ rdok x := by
  intro n cs' y h
  have hlen : cs'.length = 3 := by
    obtain ⟨_, _, _, _, hl, _, _⟩ := DataW.trod_struct Tryz.underlying52 h
    exact hl
  obtain ⟨m, hf⟩ := open_fields Tryz.underlying52 (by kernel_rfl) h hlen
  obtain ⟨a, b, c, rfl⟩ := three_of hlen
  obtain ⟨v0, z0, e0, t0⟩ := hf 0 _ rfl
  obtain ⟨v1, z1, e1, t1⟩ := hf 1 _ rfl
  obtain ⟨v2, z2, e2, t2⟩ := hf 2 _ rfl
  simp only [List.getElem?_cons_zero, List.getElem?_cons_succ, Option.some.injEq] at e0 e1 e2
  subst e0 e1 e2
  obtain ⟨x0, c0, _, w0⟩ := DataW.trod_int Tryz.underlying3 t0
  obtain ⟨x1, c1, _, w1⟩ := DataW.trod_int Tryz.underlying3 t1
  obtain ⟨x2, c2, _, w2⟩ := DataW.trod_int Tryz.underlying3 t2
  injection c0 with c0 _
  injection c1 with c1 _
  injection c2 with c2 _
  subst c0 c1 c2
  exact ⟨(x0, x1, x2), rfl, w0, w1, w2⟩

set_option maxRecDepth 100000 in
theorem open_reads {H : Type} {enc : TypeId × Value → H} {w : World} {fuel : Nat} {p : Option Addr} {len cap : Nat} {x : DataW H × List MemPlace}
    (h : DataW.trod enc Tryz.prog w 0 (fun _ => true) true fuel 48 [.slice p len cap] = some x) : ∃ zs : List Rd, RdG rcells w w.heap.size p len zs ∧ ∀ z ∈ zs, rdok z :=
  open_rows rcells rcells_length (by omega) rdok Tryz.underlying48 (by kernel_rfl) elem_read h
end Go.Proofs.YtjpmebfegpmccaaGreat
