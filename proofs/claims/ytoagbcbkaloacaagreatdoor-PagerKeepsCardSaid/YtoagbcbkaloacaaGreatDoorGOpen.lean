/- The argument []arboretumlaw7.Op opened. -/
import Derived.Test.YtoagbcbkaloacaaGreatDoorOpen
import Derived.Test.YtoagbcbkaloacaaGreatDoorGOps
namespace Go.Proofs.YtoagbcbkaloacaaGreatDoor
open Go.ChangeShapes Go.WideShapes Go.ChangeAt Go.RowKit Go.Deep

def i64w (n : Int) : Prop := (Lit.int .i64 n).wf = true
def opok (x : OpV) : Prop := i64w x.k ∧ i64w x.n ∧ i64w x.pk ∧ i64w x.pn ∧ x.pb.size ≤ maxLen

theorem five_of {l : List Value} (h : l.length = 5) : ∃ a b c d e, l = [a, b, c, d, e] := by
  match l, h with
  | [a, b, c, d, e], _ => exact ⟨a, b, c, d, e, rfl⟩

set_option maxRecDepth 100000 in
theorem op_size : Tryz.prog.cellsOf 46 = 5 := by kernel_rfl
set_option maxRecDepth 100000 in
theorem int_size : Tryz.prog.cellsOf 3 = 1 := by kernel_rfl
set_option maxRecDepth 100000 in
theorem pag_size : Tryz.prog.cellsOf 23 = 3 := by kernel_rfl
set_option maxRecDepth 100000 in
theorem str_size : Tryz.prog.cellsOf 9 = 1 := by kernel_rfl

set_option maxRecDepth 100000 in
theorem elem_op {H : Type} {enc : TypeId × Value → H} {w : World} : ∀ n cs' y, DataW.trod enc Tryz.prog w 0 (fun _ => true) true n 46 cs' = some y → ∃ x : OpV, cs' = ocells x ∧ opok x := by
  intro n cs' y h
  obtain ⟨xs, n', _, _, hl, hxl, hf⟩ := DataW.trod_struct Tryz.underlying46 h
  rw [op_size] at hl
  obtain ⟨a, b, c, d, e, rfl⟩ := five_of hl
  have f0 := hf 0 _ rfl
  have f1 := hf 1 _ rfl
  have f2 := hf 2 _ rfl
  have hx : ∀ i, i < 3 → ∃ z, xs[i]? = some z := fun i hi => ⟨_, List.getElem?_eq_getElem (by rw [hxl]; exact hi)⟩
  obtain ⟨z0, e0⟩ := hx 0 (by omega)
  obtain ⟨z1, e1⟩ := hx 1 (by omega)
  obtain ⟨z2, e2⟩ := hx 2 (by omega)
  rw [e0] at f0
  rw [e1] at f1
  rw [e2] at f2
  change DataW.trod enc Tryz.prog w 0 (fun _ => true) true n' 3 (List.take (Tryz.prog.cellsOf 3) [a, b, c, d, e]) = some z0 at f0
  change DataW.trod enc Tryz.prog w 0 (fun _ => true) true n' 3 (List.take (Tryz.prog.cellsOf 3) [b, c, d, e]) = some z1 at f1
  change DataW.trod enc Tryz.prog w 0 (fun _ => true) true n' 23 (List.take (Tryz.prog.cellsOf 23) [c, d, e]) = some z2 at f2
  rw [int_size] at f0 f1
  rw [pag_size] at f2
  change DataW.trod enc Tryz.prog w 0 (fun _ => true) true n' 3 [a] = some z0 at f0
  change DataW.trod enc Tryz.prog w 0 (fun _ => true) true n' 3 [b] = some z1 at f1
  change DataW.trod enc Tryz.prog w 0 (fun _ => true) true n' 23 [c, d, e] = some z2 at f2
  obtain ⟨x0, c0, _, w0⟩ := DataW.trod_int Tryz.underlying3 f0
  obtain ⟨x1, c1, _, w1⟩ := DataW.trod_int Tryz.underlying3 f1
  injection c0 with c0 _
  injection c1 with c1 _
  subst c0 c1
  obtain ⟨ys, n2, _, _, _, hyl, hg⟩ := DataW.trod_struct Tryz.underlying23 f2
  have g0 := hg 0 _ rfl
  have g1 := hg 1 _ rfl
  have g2 := hg 2 _ rfl
  have hy : ∀ i, i < 3 → ∃ z, ys[i]? = some z := fun i hi => ⟨_, List.getElem?_eq_getElem (by rw [hyl]; exact hi)⟩
  obtain ⟨u0, i0⟩ := hy 0 (by omega)
  obtain ⟨u1, i1⟩ := hy 1 (by omega)
  obtain ⟨u2, i2⟩ := hy 2 (by omega)
  rw [i0] at g0
  rw [i1] at g1
  rw [i2] at g2
  change DataW.trod enc Tryz.prog w 0 (fun _ => true) true n2 3 (List.take (Tryz.prog.cellsOf 3) [c, d, e]) = some u0 at g0
  change DataW.trod enc Tryz.prog w 0 (fun _ => true) true n2 3 (List.take (Tryz.prog.cellsOf 3) [d, e]) = some u1 at g1
  change DataW.trod enc Tryz.prog w 0 (fun _ => true) true n2 9 (List.take (Tryz.prog.cellsOf 9) [e]) = some u2 at g2
  rw [int_size] at g0 g1
  rw [str_size] at g2
  change DataW.trod enc Tryz.prog w 0 (fun _ => true) true n2 3 [c] = some u0 at g0
  change DataW.trod enc Tryz.prog w 0 (fun _ => true) true n2 3 [d] = some u1 at g1
  change DataW.trod enc Tryz.prog w 0 (fun _ => true) true n2 9 [e] = some u2 at g2
  obtain ⟨x2, c2, _, w2⟩ := DataW.trod_int Tryz.underlying3 g0
  obtain ⟨x3, c3, _, w3⟩ := DataW.trod_int Tryz.underlying3 g1
  obtain ⟨x4, c4, _, w4⟩ := DataW.trod_string Tryz.underlying9 g2
  injection c2 with c2 _
  injection c3 with c3 _
  injection c4 with c4 _
  subst c2 c3 c4
  exact ⟨⟨x0, x1, x2, x3, x4⟩, rfl, w0, w1, w2, w3, w4⟩

set_option maxRecDepth 100000 in
theorem open_ops {H : Type} {enc : TypeId × Value → H} {w : World} {fuel : Nat} {p : Option Addr} {len cap : Nat} {x : DataW H × List MemPlace}
    (h : DataW.trod enc Tryz.prog w 0 (fun _ => true) true fuel 42 [.slice p len cap] = some x) : ∃ zs : List OpV, RdG ocells w w.heap.size p len zs ∧ ∀ z ∈ zs, opok z :=
  open_rows ocells ocells_length (by omega) opok Tryz.underlying42 op_size elem_op h
end Go.Proofs.YtoagbcbkaloacaaGreatDoor
