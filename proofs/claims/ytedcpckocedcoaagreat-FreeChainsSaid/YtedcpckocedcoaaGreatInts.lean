/- Slices of ints: how they read, rows of them. -/
import Derived.Test.YtedcpckocedcoaaGreatFr
import Derived.Test.YtedcpckocedcoaaGreatHeapList
namespace Go.Proofs.YtedcpckocedcoaaGreat
open Go.RowKit

theorem info_int : (Tryz.prog.info? 3).map (fun i => (i.zero, i.size, i.bytes)) = some (some (.int .i64 0), 1, 8) := by kernel_rfl

def ncells (x : Int) : List Value := [.int .i64 x]
theorem ncells_length (x : Int) : (ncells x).length = 1 := rfl

/-- The slice p of n elements reads as the numbers zs; its memory lies below block B. -/
def RdI (w : World) (B : Nat) (p : Option Addr) (n : Nat) (zs : List Int) : Prop :=
  zs.length = n ∧ (0 < n → ∃ b o, p = some ⟨b, o, none⟩ ∧ b < B ∧ ∀ k, k < n → w.cell? ⟨b, o + k, none⟩ = some (.int .i64 (HL.el zs k)))

theorem RdI.keep {w w' : World} {B : Nat} {p : Option Addr} {n : Nat} {zs : List Int} (h : RdI w B p n zs) {S : Nat → Prop} (hf : Fr S w w') (hB : B ≤ w.heap.size) (hS : ∀ i, i < B → ¬ S i) : RdI w' B p n zs :=
  ⟨h.1, fun hn => by
    obtain ⟨b, o, e, hb, hc⟩ := h.2 hn
    exact ⟨b, o, e, hb, fun k hk => (hf.cell (p := ⟨b, o + k, none⟩) (by show b < _; omega) (hS b hb)).trans (hc k hk)⟩⟩

theorem RdI.below {w w' : World} {B : Nat} {p : Option Addr} {n : Nat} {zs : List Int} (h : RdI w B p n zs) (hf : Below B w w') : RdI w' B p n zs :=
  ⟨h.1, fun hn => by
    obtain ⟨b, o, e, hb, hc⟩ := h.2 hn
    exact ⟨b, o, e, hb, fun k hk => (hf.cell (p := ⟨b, o + k, none⟩) hb).trans (hc k hk)⟩⟩

theorem RdI.more {w : World} {B B' : Nat} {p : Option Addr} {n : Nat} {zs : List Int} (h : RdI w B p n zs) (hB : B ≤ B') : RdI w B' p n zs :=
  ⟨h.1, fun hn => by
    obtain ⟨b, o, e, hb, hc⟩ := h.2 hn
    exact ⟨b, o, e, by omega, hc⟩⟩

/-- What the row's frame tells of a slice of integers that came in. -/
theorem rd_of_row {w : World} {a : Option Addr} {len cap : Nat} {zs : List Int}
    (h : (a = none ∧ len = 0 ∧ cap = 0 ∧ zs = []) ∨ ∃ x, a = some x ∧ len ≤ cap ∧ cap ≤ maxLen ∧ zs.length = cap ∧ (∀ i, i < zs.length → w.cell? (x.add i) = some (.int .i64 (zs.getD i 0))) ∧ ∀ n ∈ zs, (Lit.int .i64 n).wf = true) : RdI w w.heap.size a len (zs.take len) := by
  rcases h with ⟨rfl, rfl, rfl, rfl⟩ | ⟨⟨b, o, sp⟩, rfl, hl, hm, hz, hc, _⟩
  · exact ⟨rfl, fun h => by omega⟩
  · refine ⟨by rw [List.length_take]; omega, fun hn => ?_⟩
    have h0 := hc 0 (by omega)
    have hsp : sp = none := by simpa [Addr.add] using World.cell?_spot h0
    subst hsp
    refine ⟨b, o, rfl, by simpa [Addr.add] using cell_lt h0, fun k hk => ?_⟩
    have h1 := hc k (by omega)
    have e : ((⟨b, o, none⟩ : Addr).add k) = ⟨b, o + k, none⟩ := by
      unfold Addr.add
      split
      · rename_i h; rw [h, Nat.add_zero]
      · rfl
    rw [e] at h1
    rw [h1]
    unfold HL.el
    rw [List.getD_eq_getElem?_getD, List.getD_eq_getElem?_getD, List.getElem?_take, if_pos hk]
    rfl

/-- A row that is owned reads. -/
theorem RdI.of_own {w : World} {base n c : Nat} {p : Option Addr} {zs : List Int} (h : w.ownsRow base 3 1 (.slice p n c) n (rowOf ncells zs)) (hz : zs.length = n) : RdI w w.heap.size p n zs := by
  refine ⟨hz, fun hn => ?_⟩
  obtain ⟨g, cap, hv, _, hg, _⟩ := owns_len h hn
  injection hv with h1 _ h3
  subst h1 h3
  refine ⟨g, 0, rfl, hg, fun k hk => ?_⟩
  rw [Nat.zero_add, h.cellAt k (by omega)]
  have r0 := rowOf_at ncells ncells_length zs k 0 (by omega) (by omega)
  rw [Nat.mul_one, Nat.add_zero] at r0
  exact r0

theorem add_at (b o j : Nat) : (⟨b, o, none⟩ : Addr).add j = ⟨b, o + j, none⟩ := by
  unfold Addr.add
  split
  · rename_i h; rw [h, Nat.add_zero]
  · rfl

theorem rowOf_ncells_get {zs : List Int} {j : Nat} {u : Value} (h : (rowOf ncells zs)[j]? = some u) : j < zs.length ∧ u = .int .i64 (HL.el zs j) := by
  have hl := rowOf_length ncells ncells_length zs
  have hj : j < zs.length := by
    have := (List.getElem?_eq_some_iff.1 h).1
    omega
  have r0 := rowOf_at ncells ncells_length zs j 0 hj (by omega)
  rw [Nat.mul_one, Nat.add_zero, h] at r0
  refine ⟨hj, ?_⟩
  have : (ncells (zs.getD j default))[0]? = some (.int .i64 (HL.el zs j)) := rfl
  rw [this] at r0
  injection r0

theorem rowOf_ncells_one {zs : List Int} : ∀ u ∈ rowOf ncells zs, u.oneCell' = true := by
  intro u hu
  obtain ⟨j, hj, e⟩ := List.getElem_of_mem hu
  have := rowOf_ncells_get (zs := zs) (j := j) (u := u) (by rw [List.getElem?_eq_getElem hj, e])
  rw [this.2]
  rfl

theorem rd_new (w : World) (zs : List Int) (t : TypeId) : RdI (w.alloc (.cells (rowOf ncells zs).toArray t)) (w.alloc (.cells (rowOf ncells zs).toArray t)).heap.size (some ⟨w.heap.size, 0, none⟩) zs.length zs := by
  refine ⟨rfl, fun _ => ⟨w.heap.size, 0, rfl, by simp, fun k hk => ?_⟩⟩
  have := new_cells w (rowOf ncells zs) t k (.int .i64 (HL.el zs k))
  rw [add_at] at this
  refine this ?_
  have r0 := rowOf_at ncells ncells_length zs k 0 hk (by omega)
  rw [Nat.mul_one, Nat.add_zero] at r0
  exact r0

/-- The slice p of n elements of 'size' cells each reads as zs; its memory lies below block B. -/
def RdG {α : Type} (f : α → List Value) (w : World) (B : Nat) (p : Option Addr) (n : Nat) (zs : List α) : Prop :=
  zs.length = n ∧ (0 < n → ∃ b o, p = some ⟨b, o, none⟩ ∧ b < B ∧ ∀ j u, (rowOf f zs)[j]? = some u → w.cell? ⟨b, o + j, none⟩ = some u)

section
variable {α : Type} {f : α → List Value} {w w' : World} {B B' n : Nat} {p : Option Addr} {zs : List α}
theorem RdG.below (h : RdG f w B p n zs) (hf : Below B w w') : RdG f w' B p n zs :=
  ⟨h.1, fun hn => by
    obtain ⟨b, o, e, hb, hc⟩ := h.2 hn
    exact ⟨b, o, e, hb, fun j u hu => (hf.cell (p := ⟨b, o + j, none⟩) hb).trans (hc j u hu)⟩⟩
theorem RdG.more (h : RdG f w B p n zs) (hB : B ≤ B') : RdG f w B' p n zs :=
  ⟨h.1, fun hn => by
    obtain ⟨b, o, e, hb, hc⟩ := h.2 hn
    exact ⟨b, o, e, by omega, hc⟩⟩
theorem RdG.nil : RdG f w B p 0 ([] : List α) := ⟨rfl, fun h => by omega⟩
theorem RdG.fresh (w : World) (zs : List α) (t : TypeId) : RdG f (w.alloc (.cells (rowOf f zs).toArray t)) (w.heap.size + 1) (some ⟨w.heap.size, 0, none⟩) zs.length zs :=
  ⟨rfl, fun _ => ⟨w.heap.size, 0, rfl, by omega, fun j u hu => by
    have := new_cells w (rowOf f zs) t j u hu
    rw [add_at] at this
    exact this⟩⟩
theorem RdG.of_own {base c : Nat} {e : TypeId} {size : Nat} (h : w.ownsRow base e size (.slice p n c) n (rowOf f zs)) (hz : zs.length = n) : RdG f w w.heap.size p n zs := by
  refine ⟨hz, fun hn => ?_⟩
  obtain ⟨g, cap, hv, _, hg, _⟩ := owns_len h hn
  injection hv with h1 _ h3
  subst h1 h3
  refine ⟨g, 0, rfl, hg, fun j u hu => ?_⟩
  have := h.cells (g := g) rfl j u hu
  rw [add_at] at this
  exact this
end

end Go.Proofs.YtedcpckocedcoaaGreat
