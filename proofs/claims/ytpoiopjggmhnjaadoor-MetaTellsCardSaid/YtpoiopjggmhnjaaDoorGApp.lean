/- append(row, xs...) of things of several cells: the row is the call's own, xs any slice that reads. No program in sight. -/
import Derived.Test.YtpoiopjggmhnjaaDoorInts
import Derived.Laws.AppendOwnNone
import Derived.Maps.AppendAt
import Derived.Deep.AppendLies
namespace Go.Proofs.YtpoiopjggmhnjaaDoor
open Go.RowKit

/-- A type of slices, of its elements, how an element lies. -/
structure RowT {α : Type} (P : Program) (ts te : TypeId) (f : α → List Value) (size bytes : Nat) : Prop where
  un : P.underlying ts = some (.slice te)
  info : ∃ i z, P.info? te = some i ∧ i.zero = some z ∧ i.size = size ∧ i.bytes = bytes ∧ z.cells.size = size
  pos : 0 < size
  len : ∀ x, (f x).length = size
  one : ∀ x, ∀ u ∈ f x, u.oneCell' = true
  byt : bytes ≤ 1000000

section
variable {α : Type} {P : Program} {ts te : TypeId} {f : α → List Value} {size bytes : Nat}

theorem RowT.of (un : P.underlying ts = some (.slice te)) {z : Value} (hi : (P.info? te).map (fun i => (i.zero, i.size, i.bytes)) = some (some z, size, bytes)) (hz : z.cells.size = size) (pos : 0 < size) (len : ∀ x, (f x).length = size) (one : ∀ x, ∀ u ∈ f x, u.oneCell' = true) (byt : bytes ≤ 1000000) : RowT P ts te f size bytes :=
  ⟨un, by obtain ⟨i, h1, h2, h3, h4⟩ := info_parts hi; exact ⟨i, z, h1, h2, h3, h4, hz⟩, pos, len, one, byt⟩

theorem rowOf_mem {zs : List α} {u : Value} (h : u ∈ rowOf f zs) : ∃ x, x ∈ zs ∧ u ∈ f x := by
  unfold rowOf at h
  obtain ⟨x, h1, h2⟩ := List.mem_flatMap.1 h
  exact ⟨x, h1, h2⟩

/-- How append runs; where the new row lies. -/
theorem RowT.run (T : RowT P ts te f size bytes) {w : World} (ty : TypeId) (base : Nat) (v : Value) (n : Nat) (xs : List Value) (hown : w.ownsRow base te size v n xs) {p : Option Addr} {m c B : Nat} {zs : List α} (hR : RdG f w B p m zs) (hp0 : p = none → c = 0) (hsm : n + m ≤ 1000000) (hbase : base ≤ w.heap.size) :
    ∃ v' w', (Builtin.append_ #[ts, ts] ty #[v, .slice p m c]).run P w = .ok v' w' ∧ w'.ownsRow base te size v' (n + m) (xs ++ rowOf f zs) ∧ w.grownBy w' v.ownBlock ∧ (v'.ownBlock = v.ownBlock ∨ v'.ownBlock = some w.heap.size) := by
  obtain ⟨i0, z0, hi0, hz0, hz1, hz2, hz3⟩ := T.info
  have hz := hR.1
  have hlen : (rowOf f zs).length = m * size := by rw [rowOf_length f T.len, hz]
  cases p with
  | none =>
    have h0 : m = 0 := by
      rcases Nat.eq_zero_or_pos m with h0 | h0
      · exact h0
      · obtain ⟨b, o, e, _⟩ := hR.2 h0; cases e
    have hc := hp0 rfl
    subst h0 hc
    have : zs = [] := List.eq_nil_of_length_eq_zero hz
    subst this
    exact ⟨v, w, run_append_owned_none (P := P) (w := w) base ts ty te i0 size T.un hi0 v n xs hown, by simpa [rowOf] using hown, ⟨rfl, rfl, rfl, Nat.le_refl _, fun _ _ _ => rfl⟩, .inl rfl⟩
  | some ad =>
    have hb : (n + m) * bytes ≤ 140737488355328 := Nat.le_trans (Nat.mul_le_mul hsm T.byt) (by decide)
    have hm1 : ∀ j u, (rowOf f zs)[j]? = some u → 0 < m := fun j u hu => by
      have := (List.getElem?_eq_some_iff.1 hu).1
      rw [hlen] at this
      rcases Nat.eq_zero_or_pos m with h | h
      · rw [h] at this; omega
      · exact h
    obtain ⟨v', w', hr, h2, h3, _, h5⟩ := run_append_own_at (P := P) w base ts ty te i0 z0 size bytes T.un hi0 hz0 hz1 hz2 hz3 T.pos v n xs hown ad m c (rowOf f zs) hlen (by
      intro j u hu
      obtain ⟨b, o, e, hlt, hc⟩ := hR.2 (hm1 j u hu)
      injection e with e
      subst e
      rw [add_at]
      exact hc j u hu) (fun u hu => by
        obtain ⟨x, _, hx⟩ := rowOf_mem hu
        exact T.one x u hx) (by unfold maxLen; omega) hb hbase
    exact ⟨v', w', hr, h2, h3, h5⟩

/-- append at a step. -/
theorem RowT.app (T : RowT P ts te f size bytes) {ops : Array Oper} {rest : List Oper} {o : Oper} {a : Act} {Q : Exit → Act → World → Prop} {w : World} (hgd : o.guard = none) (s x : Operand)
    (ho : o.op = .call { callee := .builtin .append, args := #[s, x], argTypes := #[ts, ts] }) (base : Nat) (v : Value) (n : Nat) (xs : List Value) (hs : a.eval s = v) (hown : w.ownsRow base te size v n xs)
    {p : Option Addr} {m c B : Nat} {zs : List α} (hx : a.eval x = .slice p m c) (hR : RdG f w B p m zs) (hp0 : p = none → c = 0) (hsm : n + m ≤ 1000000) (hbase : base ≤ w.heap.size)
    (h : ∀ v' w', w'.ownsRow base te size v' (n + m) (xs ++ rowOf f zs) → w.grownBy w' v.ownBlock → (v'.ownBlock = v.ownBlock ∨ v'.ownBlock = some w.heap.size) → wpList P ops Q rest (a.put o.dst v') w') : wpList P ops Q (o :: rest) a w := by
  obtain ⟨v', w', hr, h2, h3, h4⟩ := T.run o.type base v n xs hown hR hp0 hsm hbase
  refine wpList_plain hgd fun _ hK => ?_
  unfold Oper.wp execOp
  simp only [ho, resolve, invoke, builtin, Sem.run_bind, Sem.run_pure, Result.andThen_ok, List.map_toArray, List.map_cons, List.map_nil, hs, hx, hr]
  exact hK _ _ (h v' w' h2 h3 h4)

/-- append at a step of a region that draws its order. -/
theorem RowT.step (T : RowT P ts te f size bytes) {ops : Array Oper} {o : Oper} {a : Act} {K : Act → World → Prop} {Q : Exit → Act → World → Prop} {E : Prop} {w : World} (hgd : o.guard = none) (s x : Operand)
    (ho : o.op = .call { callee := .builtin .append, args := #[s, x], argTypes := #[ts, ts] }) (base : Nat) (v : Value) (n : Nat) (xs : List Value) (hs : a.eval s = v) (hown : w.ownsRow base te size v n xs)
    {p : Option Addr} {m c B : Nat} {zs : List α} (hx : a.eval x = .slice p m c) (hR : RdG f w B p m zs) (hp0 : p = none → c = 0) (hsm : n + m ≤ 1000000) (hbase : base ≤ w.heap.size)
    (h : ∀ v' w', w'.ownsRow base te size v' (n + m) (xs ++ rowOf f zs) → w.grownBy w' v.ownBlock → (v'.ownBlock = v.ownBlock ∨ v'.ownBlock = some w.heap.size) → K (a.put o.dst v') w') : if Region.wanted o (yielded ops a.tmps) = true then Oper.wp P o a w K Q else E := by
  obtain ⟨v', w', hr, h2, h3, h4⟩ := T.run o.type base v n xs hown hR hp0 hsm hbase
  have hw : Region.wanted o (yielded ops a.tmps) = true := by simp [Region.wanted, hgd]
  rw [if_pos hw]
  unfold Oper.wp execOp
  simp only [ho, resolve, invoke, builtin, Sem.run_bind, Sem.run_pure, Result.andThen_ok, List.map_toArray, List.map_cons, List.map_nil, hs, hx, hr]
  exact h v' w' h2 h3 h4
end

/-! ### Parts of a slice that reads -/
section
variable {α : Type} {f : α → List Value} {size : Nat}

theorem rowOf_take (hf : ∀ x, (f x).length = size) : ∀ (zs : List α) (k : Nat), rowOf f (zs.take k) = (rowOf f zs).take (k * size)
  | zs, 0 => by simp [rowOf]
  | [], k + 1 => by simp [rowOf]
  | x :: zs, k + 1 => by
    have e : rowOf f (x :: zs) = f x ++ rowOf f zs := by simp [rowOf]
    have e2 : rowOf f (x :: zs.take k) = f x ++ rowOf f (zs.take k) := by simp [rowOf]
    rw [List.take_succ_cons, e, e2, rowOf_take hf zs k, List.take_append, hf, List.take_of_length_le (l := f x) (by rw [hf, Nat.succ_mul]; omega)]
    congr 2
    rw [Nat.succ_mul]; omega
theorem rowOf_drop (hf : ∀ x, (f x).length = size) : ∀ (zs : List α) (k : Nat), rowOf f (zs.drop k) = (rowOf f zs).drop (k * size)
  | zs, 0 => by simp [rowOf]
  | [], k + 1 => by simp [rowOf]
  | x :: zs, k + 1 => by
    have e : rowOf f (x :: zs) = f x ++ rowOf f zs := by simp [rowOf]
    have e3 : (f x).drop ((k + 1) * size) = [] := List.drop_eq_nil_of_le (by rw [hf, Nat.succ_mul]; omega)
    rw [List.drop_succ_cons, e, rowOf_drop hf zs k, List.drop_append, hf, e3, List.nil_append]
    congr 1
    rw [Nat.succ_mul]; omega

theorem RdG.takes {w : World} {B n k : Nat} {p : Option Addr} {zs : List α} (hf : ∀ x, (f x).length = size) (h : RdG f w B p n zs) (hk : k ≤ n) : RdG f w B p k (zs.take k) := by
  refine ⟨by rw [List.length_take, h.1]; omega, fun hk0 => ?_⟩
  obtain ⟨b, o, e, hb, hc⟩ := h.2 (by omega)
  refine ⟨b, o, e, hb, fun j u hu => hc j u ?_⟩
  rw [rowOf_take hf, List.getElem?_take] at hu
  split at hu
  · exact hu
  · cases hu
theorem RdG.drops {w : World} {B n k b o : Nat} {zs : List α} (hf : ∀ x, (f x).length = size) (h : RdG f w B (some ⟨b, o, none⟩) n zs) (hk : k ≤ n) : RdG f w B (some ⟨b, o + k * size, none⟩) (n - k) (zs.drop k) := by
  refine ⟨by rw [List.length_drop, h.1], fun hk0 => ?_⟩
  obtain ⟨b', o', e, hb, hc⟩ := h.2 (by omega)
  injection e with e
  injection e with e1 e2 _
  subst e1 e2
  refine ⟨b, o + k * size, rfl, hb, fun j u hu => ?_⟩
  rw [rowOf_drop hf, List.getElem?_drop] at hu
  rw [Nat.add_assoc]
  exact hc _ u hu
end
end Go.Proofs.YtpoiopjggmhnjaaDoor
