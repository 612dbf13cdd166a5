/- append(row, xs...) where the row is the call's own and xs is any slice of ints that reads. -/
import Derived.Test.YtedcpckocedcoaaGreatInts
import Derived.Laws.AppendOwnNone
namespace Go.Proofs.YtedcpckocedcoaaGreat
open Go.RowKit

theorem rowOf_mapI (zs : List Int) : rowOf ncells zs = zs.map (Value.int .i64) := by
  induction zs with
  | nil => rfl
  | cons x zs ih => simp only [rowOf, List.flatMap_cons, List.map_cons] at *; rw [ih]; rfl

set_option maxRecDepth 100000 in
theorem append_rd {ops : Array Oper} {rest : List Oper} {o : Oper} {a : Act} {Q : Exit → Act → World → Prop} {w : World} (hgd : o.guard = none) (s x : Operand)
    (ho : o.op = .call { callee := .builtin .append, args := #[s, x], argTypes := #[22, 22] }) (base : Nat) (v : Value) (n : Nat) (xs : List Value) (hs : a.eval s = v) (hown : w.ownsRow base 3 1 v n xs)
    (p : Option Addr) (m c : Nat) (zs : List Int) (hx : a.eval x = .slice p m c) (hR : RdI w w.heap.size p m zs) (hp0 : p = none → c = 0) (hsm : n + m ≤ 1000000) (hbase : base ≤ w.heap.size)
    (h : ∀ v' w', w'.ownsRow base 3 1 v' (n + m) (xs ++ rowOf ncells zs) → w.grownBy w' v.ownBlock → wpList Tryz.prog ops Q rest (a.put o.dst v') w') : wpList Tryz.prog ops Q (o :: rest) a w := by
  obtain ⟨i0, hi0, hz0, hz1, hz2⟩ := info_parts info_int
  have hz := hR.1
  have hlen : (rowOf ncells zs).length = m * 1 := by rw [rowOf_length ncells ncells_length, hz]
  cases p with
  | none =>
    have h0 : m = 0 := by
      rcases Nat.eq_zero_or_pos m with h0 | h0
      · exact h0
      · obtain ⟨b, o, e, _⟩ := hR.2 h0; cases e
    have hc := hp0 rfl
    subst h0 hc
    have : zs = [] := List.eq_nil_of_length_eq_zero hz
    subst this
    refine wpList_append_own_none hgd s x _ ho base 3 i0 1 Tryz.underlying22 hi0 v n xs hs hown hx ?_
    refine h v w (by simpa [rowOf] using hown) ⟨rfl, rfl, rfl, Nat.le_refl _, fun _ _ _ => rfl⟩
  | some ad =>
    refine wpList_append_own w hgd s x _ ho base 3 i0 _ 1 8 Tryz.underlying22 hi0 hz0 hz1 hz2 rfl (by omega) v n xs hs hown ad m c (rowOf ncells zs) hx hlen ?_ rowOf_ncells_one (by unfold maxLen; omega) (by omega) hbase ?_
    · intro j u hu
      obtain ⟨hj, rfl⟩ := rowOf_ncells_get hu
      obtain ⟨b, o, e, hlt, hc⟩ := hR.2 (by omega)
      injection e with e
      subst e
      rw [add_at, ← hc j (by omega)]
    · intro v' w' h1 h2 _
      exact h v' w' h1 h2
end Go.Proofs.YtedcpckocedcoaaGreat
