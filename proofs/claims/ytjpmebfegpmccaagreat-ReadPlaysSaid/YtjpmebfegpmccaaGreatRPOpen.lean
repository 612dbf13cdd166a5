/- ReadPlays' argument: a slice of steps, each with a slice of reads. -/
import Derived.Test.YtjpmebfegpmccaaGreatROpen
namespace Go.Proofs.YtjpmebfegpmccaaGreat
open Go.ChangeShapes Go.WideShapes Go.ChangeAt Go.RowKit Go.Deep

/-- A step. -/
structure RdOp where
  k : Int
  a : Int
  b : Int
  p : Option Addr
  n : Nat
  c : Nat
  zs : List Rd
instance : Inhabited RdOp := ⟨⟨0, 0, 0, none, 0, 0, []⟩⟩
def opc (x : RdOp) : List Value := [.int .i64 x.k, .int .i64 x.a, .int .i64 x.b, .slice x.p x.n x.c]
theorem opc_length (x : RdOp) : (opc x).length = 4 := rfl
def opok (w : World) (x : RdOp) : Prop := RdG rcells w w.heap.size x.p x.n x.zs ∧ (x.p = none → x.c = 0) ∧ ∀ z ∈ x.zs, rdok z

theorem four_of {l : List Value} (h : l.length = 4) : ∃ a b c d, l = [a, b, c, d] := by
  match l, h with
  | [a, b, c, d], _ => exact ⟨a, b, c, d, rfl⟩

set_option maxRecDepth 100000 in
theorem elem_rop {H : Type} {enc : TypeId × Value → H} {w : World} : ∀ n cs' y, DataW.trod enc Tryz.prog w 0 (fun _ => true) true n 50 cs' = some y → ∃ x : RdOp, cs' = opc x ∧ opok w x := by
  intro n cs' y h
  have hlen : cs'.length = 4 := by
    obtain ⟨_, _, _, _, hl, _, _⟩ := DataW.trod_struct Tryz.underlying50 h
    exact hl
  obtain ⟨m, hf⟩ := open_fields Tryz.underlying50 (by kernel_rfl) h hlen
  obtain ⟨a, b, c, d, rfl⟩ := four_of hlen
  obtain ⟨v0, z0, e0, t0⟩ := hf 0 _ rfl
  obtain ⟨v1, z1, e1, t1⟩ := hf 1 _ rfl
  obtain ⟨v2, z2, e2, t2⟩ := hf 2 _ rfl
  obtain ⟨v3, z3, e3, t3⟩ := hf 3 _ rfl
  simp only [List.getElem?_cons_zero, List.getElem?_cons_succ, Option.some.injEq] at e0 e1 e2 e3
  subst e0 e1 e2 e3
  obtain ⟨x0, c0, _, _⟩ := DataW.trod_int Tryz.underlying3 t0
  obtain ⟨x1, c1, _, _⟩ := DataW.trod_int Tryz.underlying3 t1
  obtain ⟨x2, c2, _, _⟩ := DataW.trod_int Tryz.underlying3 t2
  injection c0 with c0 _
  injection c1 with c1 _
  injection c2 with c2 _
  subst c0 c1 c2
  obtain ⟨p, len, cap, rfl, hc⟩ := (by
    rcases open_slice Tryz.underlying48 t3 with ⟨hcs, _⟩ | ⟨a, len', cap', m', n', D, Pl, hcs, _⟩
    · injection hcs with hcs _
      exact ⟨none, 0, 0, hcs, fun _ => rfl⟩
    · injection hcs with hcs _
      exact ⟨some a, len', cap', hcs, fun h => by cases h⟩ : ∃ p len cap, d = .slice p len cap ∧ (p = none → cap = 0))
  obtain ⟨zs, hr, hz⟩ := open_reads t3
  exact ⟨⟨x0, x1, x2, p, len, cap, zs⟩, rfl, hr, hc, hz⟩

set_option maxRecDepth 100000 in
theorem open_rops {H : Type} {enc : TypeId × Value → H} {w : World} {fuel : Nat} {p : Option Addr} {len cap : Nat} {x : DataW H × List MemPlace}
    (h : DataW.trod enc Tryz.prog w 0 (fun _ => true) true fuel 22 [.slice p len cap] = some x) : ∃ zs : List RdOp, RdG opc w w.heap.size p len zs ∧ ∀ z ∈ zs, opok w z :=
  open_rows opc opc_length (by omega) (opok w) Tryz.underlying22 (by kernel_rfl) elem_rop h
end Go.Proofs.YtjpmebfegpmccaaGreat
