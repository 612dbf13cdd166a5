/- FreePlays' argument: a slice of steps, each with a slice of ints. -/
import Derived.Test.YtedcpckocedcoaaGreatOpen
import Derived.Test.YtedcpckocedcoaaGreatB1
namespace Go.Proofs.YtedcpckocedcoaaGreat
open Go.ChangeShapes Go.WideShapes Go.ChangeAt Go.RowKit Go.Deep

/-- A step. -/
structure FrOp where
  k : Int
  t : Int
  p : Option Addr
  n : Nat
  c : Nat
  zs : List Int
instance : Inhabited FrOp := ⟨⟨0, 0, none, 0, 0, []⟩⟩
def foc (x : FrOp) : List Value := [.int .i64 x.k, .int .i64 x.t, .slice x.p x.n x.c]
theorem foc_length (x : FrOp) : (foc x).length = 3 := rfl
def fok (w : World) (x : FrOp) : Prop := (Lit.int .i64 x.t).wf = true ∧ RdI w w.heap.size x.p x.n x.zs ∧ (x.p = none → x.c = 0)

theorem tri_of {l : List Value} (h : l.length = 3) : ∃ a b c, l = [a, b, c] := by
  match l, h with
  | [a, b, c], _ => exact ⟨a, b, c, rfl⟩

set_option maxRecDepth 100000 in
theorem elem_int {H : Type} {enc : TypeId × Value → H} {w : World} : ∀ n cs' y, DataW.trod enc Tryz.prog w 0 (fun _ => true) true n 3 cs' = some y → ∃ x : Int, cs' = ncells x ∧ True := by
  intro n cs' y h
  obtain ⟨x, c, _, _⟩ := DataW.trod_int Tryz.underlying3 h
  exact ⟨x, c, trivial⟩

theorem RdG.toI {w : World} {B : Nat} {p : Option Addr} {n : Nat} {zs : List Int} (h : RdG ncells w B p n zs) : RdI w B p n zs :=
  ⟨h.1, fun hn => by
    obtain ⟨b, o, e, hb, hc⟩ := h.2 hn
    refine ⟨b, o, e, hb, fun k hk => hc k _ ?_⟩
    have r := rowOf_at ncells ncells_length zs k 0 (by rw [h.1]; exact hk) (by omega)
    rw [Nat.mul_one, Nat.add_zero] at r
    rw [r]
    rfl⟩

set_option maxRecDepth 100000 in
theorem open_intsI {H : Type} {enc : TypeId × Value → H} {w : World} {fuel : Nat} {p : Option Addr} {len cap : Nat} {x : DataW H × List MemPlace}
    (h : DataW.trod enc Tryz.prog w 0 (fun _ => true) true fuel 22 [.slice p len cap] = some x) : ∃ zs : List Int, RdI w w.heap.size p len zs := by
  obtain ⟨zs, h1, _⟩ := open_rows ncells ncells_length (by omega) (fun _ => True) Tryz.underlying22 (by kernel_rfl) elem_int h
  exact ⟨zs, h1.toI⟩

set_option maxRecDepth 100000 in
theorem elem_fop {H : Type} {enc : TypeId × Value → H} {w : World} : ∀ n cs' y, DataW.trod enc Tryz.prog w 0 (fun _ => true) true n 55 cs' = some y → ∃ x : FrOp, cs' = foc x ∧ fok w x := by
  intro n cs' y h
  have hlen : cs'.length = 3 := by
    obtain ⟨_, _, _, _, hl, _, _⟩ := DataW.trod_struct Tryz.underlying55 h
    exact hl
  obtain ⟨m, hf⟩ := open_fields Tryz.underlying55 (by kernel_rfl) h hlen
  obtain ⟨a, b, d, rfl⟩ := tri_of hlen
  obtain ⟨v0, z0, e0, t0⟩ := hf 0 _ rfl
  obtain ⟨v1, z1, e1, t1⟩ := hf 1 _ rfl
  obtain ⟨v2, z2, e2, t2⟩ := hf 2 _ rfl
  simp only [List.getElem?_cons_zero, List.getElem?_cons_succ, Option.some.injEq] at e0 e1 e2
  subst e0 e1 e2
  obtain ⟨x0, c0, _, _⟩ := DataW.trod_int Tryz.underlying3 t0
  obtain ⟨x1, c1, _, w1⟩ := DataW.trod_int Tryz.underlying3 t1
  injection c0 with c0 _
  injection c1 with c1 _
  subst c0 c1
  obtain ⟨p, len, cap, rfl, hc⟩ := (by
    rcases open_slice Tryz.underlying22 t2 with ⟨hcs, _⟩ | ⟨a, len', cap', m', n', D, Pl, hcs, _⟩
    · injection hcs with hcs _
      exact ⟨none, 0, 0, hcs, fun _ => rfl⟩
    · injection hcs with hcs _
      exact ⟨some a, len', cap', hcs, fun h => by cases h⟩ : ∃ p len cap, d = .slice p len cap ∧ (p = none → cap = 0))
  obtain ⟨zs, hr⟩ := open_intsI t2
  exact ⟨⟨x0, x1, p, len, cap, zs⟩, rfl, w1, hr, hc⟩

set_option maxRecDepth 100000 in
theorem open_fops {H : Type} {enc : TypeId × Value → H} {w : World} {fuel : Nat} {p : Option Addr} {len cap : Nat} {x : DataW H × List MemPlace}
    (h : DataW.trod enc Tryz.prog w 0 (fun _ => true) true fuel 23 [.slice p len cap] = some x) : ∃ zs : List FrOp, RdG foc w w.heap.size p len zs ∧ ∀ z ∈ zs, fok w z :=
  open_rows foc foc_length (by omega) (fok w) Tryz.underlying23 (by kernel_rfl) elem_fop h
end Go.Proofs.YtedcpckocedcoaaGreat
