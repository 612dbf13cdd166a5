/- Slices of texts: how they read; append. (Turned from the Book of ints by gen-texts.py.) -/
import Derived.Test.YtedcpckocedcoaaGreatInts
import Derived.Test.YtedcpckocedcoaaGreatAppR
namespace Go.Proofs.YtedcpckocedcoaaGreat
open Go.RowKit

theorem info_str : (Tryz.prog.info? 9).map (fun i => (i.zero, i.size, i.bytes)) = some (some (.string ByteArray.empty), 1, 16) := by kernel_rfl

def bcells (x : ByteArray) : List Value := [.string x]
theorem bcells_length (x : ByteArray) : (bcells x).length = 1 := rfl

/-- The slice p of n elements reads as the numbers zs; its memory lies below block B. -/
def RdT (w : World) (B : Nat) (p : Option Addr) (n : Nat) (zs : List ByteArray) : Prop :=
  zs.length = n ∧ (0 < n → ∃ b o, p = some ⟨b, o, none⟩ ∧ b < B ∧ ∀ k, k < n → w.cell? ⟨b, o + k, none⟩ = some (.string (HL.el zs k)))

theorem RdT.keep {w w' : World} {B : Nat} {p : Option Addr} {n : Nat} {zs : List ByteArray} (h : RdT w B p n zs) {S : Nat → Prop} (hf : Fr S w w') (hB : B ≤ w.heap.size) (hS : ∀ i, i < B → ¬ S i) : RdT w' B p n zs :=
  ⟨h.1, fun hn => by
    obtain ⟨b, o, e, hb, hc⟩ := h.2 hn
    exact ⟨b, o, e, hb, fun k hk => (hf.cell (p := ⟨b, o + k, none⟩) (by show b < _; omega) (hS b hb)).trans (hc k hk)⟩⟩

theorem RdT.below {w w' : World} {B : Nat} {p : Option Addr} {n : Nat} {zs : List ByteArray} (h : RdT w B p n zs) (hf : Below B w w') : RdT w' B p n zs :=
  ⟨h.1, fun hn => by
    obtain ⟨b, o, e, hb, hc⟩ := h.2 hn
    exact ⟨b, o, e, hb, fun k hk => (hf.cell (p := ⟨b, o + k, none⟩) hb).trans (hc k hk)⟩⟩

theorem RdT.more {w : World} {B B' : Nat} {p : Option Addr} {n : Nat} {zs : List ByteArray} (h : RdT w B p n zs) (hB : B ≤ B') : RdT w B' p n zs :=
  ⟨h.1, fun hn => by
    obtain ⟨b, o, e, hb, hc⟩ := h.2 hn
    exact ⟨b, o, e, by omega, hc⟩⟩

/-- A row that is owned reads. -/
theorem RdT.of_own {w : World} {base n c : Nat} {p : Option Addr} {zs : List ByteArray} (h : w.ownsRow base 9 1 (.slice p n c) n (rowOf bcells zs)) (hz : zs.length = n) : RdT w w.heap.size p n zs := by
  refine ⟨hz, fun hn => ?_⟩
  obtain ⟨g, cap, hv, _, hg, _⟩ := owns_len h hn
  injection hv with h1 _ h3
  subst h1 h3
  refine ⟨g, 0, rfl, hg, fun k hk => ?_⟩
  rw [Nat.zero_add, h.cellAt k (by omega)]
  have r0 := rowOf_at bcells bcells_length zs k 0 (by omega) (by omega)
  rw [Nat.mul_one, Nat.add_zero] at r0
  exact r0

theorem rowOf_bcells_get {zs : List ByteArray} {j : Nat} {u : Value} (h : (rowOf bcells zs)[j]? = some u) : j < zs.length ∧ u = .string (HL.el zs j) := by
  have hl := rowOf_length bcells bcells_length zs
  have hj : j < zs.length := by
    have := (List.getElem?_eq_some_iff.1 h).1
    omega
  have r0 := rowOf_at bcells bcells_length zs j 0 hj (by omega)
  rw [Nat.mul_one, Nat.add_zero, h] at r0
  refine ⟨hj, ?_⟩
  have : (bcells (zs.getD j default))[0]? = some (.string (HL.el zs j)) := rfl
  rw [this] at r0
  injection r0

theorem rowOf_bcells_one {zs : List ByteArray} : ∀ u ∈ rowOf bcells zs, u.oneCell' = true := by
  intro u hu
  obtain ⟨j, hj, e⟩ := List.getElem_of_mem hu
  have := rowOf_bcells_get (zs := zs) (j := j) (u := u) (by rw [List.getElem?_eq_getElem hj, e])
  rw [this.2]
  rfl

theorem rd_newT (w : World) (zs : List ByteArray) (t : TypeId) : RdT (w.alloc (.cells (rowOf bcells zs).toArray t)) (w.alloc (.cells (rowOf bcells zs).toArray t)).heap.size (some ⟨w.heap.size, 0, none⟩) zs.length zs := by
  refine ⟨rfl, fun _ => ⟨w.heap.size, 0, rfl, by simp, fun k hk => ?_⟩⟩
  have := new_cells w (rowOf bcells zs) t k (.string (HL.el zs k))
  rw [add_at] at this
  refine this ?_
  have r0 := rowOf_at bcells bcells_length zs k 0 hk (by omega)
  rw [Nat.mul_one, Nat.add_zero] at r0
  exact r0



theorem rowOf_mapT (zs : List ByteArray) : rowOf bcells zs = zs.map Value.string := by
  induction zs with
  | nil => rfl
  | cons x zs ih => simp only [rowOf, List.flatMap_cons, List.map_cons] at *; rw [ih]; rfl

set_option maxRecDepth 100000 in
theorem append_rdT {ops : Array Oper} {rest : List Oper} {o : Oper} {a : Act} {Q : Exit → Act → World → Prop} {w : World} (hgd : o.guard = none) (s x : Operand)
    (ho : o.op = .call { callee := .builtin .append, args := #[s, x], argTypes := #[68, 68] }) (base : Nat) (v : Value) (n : Nat) (xs : List Value) (hs : a.eval s = v) (hown : w.ownsRow base 9 1 v n xs)
    (p : Option Addr) (m c : Nat) (zs : List ByteArray) (hx : a.eval x = .slice p m c) (hR : RdT w w.heap.size p m zs) (hp0 : p = none → c = 0) (hsm : n + m ≤ 1000000) (hbase : base ≤ w.heap.size)
    (h : ∀ v' w', w'.ownsRow base 9 1 v' (n + m) (xs ++ rowOf bcells zs) → w.grownBy w' v.ownBlock → wpList Tryz.prog ops Q rest (a.put o.dst v') w') : wpList Tryz.prog ops Q (o :: rest) a w := by
  obtain ⟨i0, hi0, hz0, hz1, hz2⟩ := info_parts info_str
  have hz := hR.1
  have hlen : (rowOf bcells zs).length = m * 1 := by rw [rowOf_length bcells bcells_length, hz]
  cases p with
  | none =>
    have h0 : m = 0 := by
      rcases Nat.eq_zero_or_pos m with h0 | h0
      · exact h0
      · obtain ⟨b, o, e, _⟩ := hR.2 h0; cases e
    have hc := hp0 rfl
    subst h0 hc
    have : zs = [] := List.eq_nil_of_length_eq_zero hz
    subst this
    refine wpList_append_own_none hgd s x _ ho base 9 i0 1 Tryz.underlying68 hi0 v n xs hs hown hx ?_
    refine h v w (by simpa [rowOf] using hown) ⟨rfl, rfl, rfl, Nat.le_refl _, fun _ _ _ => rfl⟩
  | some ad =>
    refine wpList_append_own w hgd s x _ ho base 9 i0 _ 1 16 Tryz.underlying68 hi0 hz0 hz1 hz2 rfl (by omega) v n xs hs hown ad m c (rowOf bcells zs) hx hlen ?_ rowOf_bcells_one (by unfold maxLen; omega) (by omega) hbase ?_
    · intro j u hu
      obtain ⟨hj, rfl⟩ := rowOf_bcells_get hu
      obtain ⟨b, o, e, hlt, hc⟩ := hR.2 (by omega)
      injection e with e
      subst e
      rw [add_at, ← hc j (by omega)]
    · intro v' w' h1 h2 _
      exact h v' w' h1 h2
end Go.Proofs.YtedcpckocedcoaaGreat
