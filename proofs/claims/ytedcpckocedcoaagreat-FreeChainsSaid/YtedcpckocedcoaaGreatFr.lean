/- Frames: which blocks of memory a call may have changed; rows of cells; small facts (no function of the program is named). -/
import Derived.Test.YtedcpckocedcoaaGreatRows
import Derived.WalkKit
import Derived.WalkSpells
import Derived.WalkLawsBesides
import Derived.Laws.OwnMore
import Derived.Laws.Rows
import Derived.StillTailTactics
import Derived.Lib.Hide
namespace Go.Proofs.YtedcpckocedcoaaGreat
open Go.RowKit

/-- Only blocks in S, and new ones, may have changed. -/
structure Fr (S : Nat → Prop) (w w' : World) : Prop where
  os : w'.os = w.os
  tape : w'.tape = w.tape
  output : w'.output = w.output
  size : w.heap.size ≤ w'.heap.size
  block : ∀ k, k < w.heap.size → ¬ S k → w'.heap[k]? = w.heap[k]?

section
variable {S T : Nat → Prop} {w w1 w2 : World}
theorem Fr.refl (S : Nat → Prop) (w : World) : Fr S w w := ⟨rfl, rfl, rfl, Nat.le_refl _, fun _ _ _ => rfl⟩
theorem Fr.trans (h : Fr S w w1) (k : Fr T w1 w2) (hT : ∀ i, T i → i < w.heap.size → S i) : Fr S w w2 :=
  ⟨k.os.trans h.os, k.tape.trans h.tape, k.output.trans h.output, Nat.le_trans h.size k.size, fun i hi hs =>
    (k.block i (Nat.lt_of_lt_of_le hi h.size) (fun t => hs (hT i t hi))).trans (h.block i hi hs)⟩
theorem Fr.mono (h : Fr S w w1) (hT : ∀ i, i < w.heap.size → S i → T i) : Fr T w w1 :=
  ⟨h.os, h.tape, h.output, h.size, fun i hi hs => h.block i hi (fun s => hs (hT i hi s))⟩
theorem Fr.drew (h : Fr S w w1) : Fr S w w1.drew := ⟨h.os, h.tape, h.output, h.size, h.block⟩
theorem Fr.drewN (h : Fr S w w1) (n : Nat) : Fr S w (w1.drewN n) := ⟨h.os, h.tape, h.output, h.size, h.block⟩
theorem Fr.alloc (h : Fr S w w1) (o : Obj) : Fr S w (w1.alloc o) :=
  ⟨h.os, h.tape, h.output, Nat.le_trans h.size (by simp), fun i hi hs => (Below.heap_alloc w1 o i (Nat.lt_of_lt_of_le hi h.size)).trans (h.block i hi hs)⟩
theorem Fr.setCell (h : Fr S w w1) {p : Addr} (hp : p.block < w.heap.size → S p.block) (u : Value) : Fr S w (w1.setCell p u) :=
  ⟨h.os, h.tape, h.output, by simpa [World.setCell] using h.size, fun i hi hs => (Below.heap_setCell w1 p u i (by
    rintro rfl
    exact hs (hp hi))).trans (h.block i hi hs)⟩
theorem Fr.of_below {B : Nat} (h : Below B w w1) (hS : ∀ i, i < w.heap.size → B ≤ i → S i) : Fr S w w1 :=
  ⟨h.os, h.tape, h.output, h.size, fun i hi hs => h.block i (by rcases Nat.lt_or_ge i B with g | g; exact g; exact absurd (hS i hi g) hs)⟩
theorem Fr.of_all (h : Below w.heap.size w w1) : Fr S w w1 := Fr.of_below h (fun i hi hb => by omega)
theorem Fr.of_grown {row : Option Nat} (h : w.grownBy w1 row) (hS : ∀ i, i < w.heap.size → row = some i → S i) : Fr S w w1 :=
  ⟨h.os, h.tape, h.output, h.size, fun i hi hs => h.block i hi (fun e => hs (hS i hi e.symm))⟩
theorem Fr.below {B : Nat} (h : Fr S w w1) (hB : B ≤ w.heap.size) (hS : ∀ i, S i → B ≤ i) : Below B w w1 :=
  ⟨h.os, h.tape, h.output, h.size, fun i hi => h.block i (by omega) (fun s => by have := hS i s; omega)⟩
theorem Fr.cell (h : Fr S w w1) {p : Addr} (hp : p.block < w.heap.size) (hs : ¬ S p.block) : w1.cell? p = w.cell? p := World.cell?_of_block (h.block _ hp hs)
theorem Fr.frozen (h : Fr S w w1) {p : Addr} (hp : p.block < w.heap.size) (hs : ¬ S p.block) : w1.frozen? p = w.frozen? p := World.frozen?_of_block (h.block _ hp hs)
theorem Fr.grown {row : Option Nat} (h : Fr S w w1) (hS : ∀ i, S i → row = some i) : w.grownBy w1 row :=
  ⟨h.os, h.tape, h.output, h.size, fun i hi hne => h.block i hi (fun s => hne (hS i s).symm)⟩
theorem Fr.owns {base : Nat} {e : TypeId} {size n : Nat} {v : Value} {xs : List Value} (h : Fr S w w1) (ho : w.ownsRow base e size v n xs) (hS : ∀ g, v.ownBlock = some g → ¬ S g) : w1.ownsRow base e size v n xs := by
  refine ⟨ho.1, ?_⟩
  rcases ho.2 with hv | ⟨g, cap, cur, hv, hb, hg, hrest⟩
  · exact .inl hv
  · refine .inr ⟨g, cap, cur, hv, hb, ?_, hrest⟩
    have hlt : g < w.heap.size := by
      rcases Nat.lt_or_ge g w.heap.size with h | h
      · exact h
      · rw [Array.getElem?_eq_none h] at hg; cases hg
    rw [h.block g hlt (hS g (by rw [hv]; rfl))]
    exact hg
end

theorem cell_lt {w : World} {p : Addr} {v : Value} (h : w.cell? p = some v) : p.block < w.heap.size := by
  rcases Nat.lt_or_ge p.block w.heap.size with g | g
  · exact g
  · unfold World.cell? at h
    rw [Array.getElem?_eq_none g] at h
    cases h

/-- A region whose head only reads or calls quietly, and whose tail goes in one order: the world behind the draw is any that S holds of. -/
theorem region_tail {P : Program} {id : Nat} {Q : Exit → Act → World → Prop} {a : Act} {w : World} {l : List Oper} (n : Nat) (hm : P.follows .mixedOrders = true) (hB : Region.lexTailB .any l.toArray n = true)
    (S : World → Prop) (hS : S w.drew) (h : ∀ V, S V → wpStill P l.toArray V (fun a' => wpList P l.toArray Q (l.drop n) a' V) (l.take n) a) : (Code.region id l.toArray true).wp P Q a w :=
  wp_region_still_tail n hm hB (h _ hS)

/-- A region that only reads or calls quietly, in the order of the text. -/
theorem region_all {P : Program} {id : Nat} {Q : Exit → Act → World → Prop} {a : Act} {w : World} {l : List Oper} (hm : P.follows .mixedOrders = true) (hB : Region.lexB .any l.toArray = true)
    (S : World → Prop) (hS : S w.drew) (h : ∀ V, S V → wpStill P l.toArray V (fun a' => Q .normal a' V) l a) : (Code.region id l.toArray true).wp P Q a w :=
  wp_region_still_lit hm hB (h _ hS)

theorem still_of {P : Program} {f : FuncId} {args : Array Value} {w : World} {v : Value} (h : Calls P f args w fun e w' => e = .returned v ∧ w = w') : Calls P f args w fun e w' => e = .returned v ∧ w' = w :=
  h.mono fun _ _ ⟨a, b⟩ => ⟨a, b.symm⟩

/-- The cells of a list of things of 'size' cells each. -/
def rowOf {α : Type} (f : α → List Value) (l : List α) : List Value := l.flatMap f

section
variable {α : Type} [Inhabited α] (f : α → List Value) {size : Nat}
omit [Inhabited α] in
theorem rowOf_length (hf : ∀ x, (f x).length = size) (l : List α) : (rowOf f l).length = l.length * size := by
  induction l with
  | nil => simp [rowOf]
  | cons x l ih => simp only [rowOf, List.flatMap_cons, List.length_append, List.length_cons] at *; rw [ih, hf, Nat.succ_mul]; omega
omit [Inhabited α] in
theorem rowOf_append (l m : List α) : rowOf f (l ++ m) = rowOf f l ++ rowOf f m := by simp [rowOf]
omit [Inhabited α] in
theorem rowOf_one (x : α) : rowOf f [x] = f x := by simp [rowOf]
theorem rowOf_at (hf : ∀ x, (f x).length = size) (l : List α) (k c : Nat) (hk : k < l.length) (hc : c < size) : (rowOf f l)[k * size + c]? = (f (l.getD k default))[c]? := by
  induction l generalizing k with
  | nil => simp at hk
  | cons x l ih =>
    cases k with
    | zero => simp only [rowOf, List.flatMap_cons, Nat.zero_mul, Nat.zero_add, List.getD_cons_zero]; rw [List.getElem?_append_left (by rw [hf]; exact hc)]
    | succ k =>
      simp only [rowOf, List.flatMap_cons, List.getD_cons_succ]
      rw [List.getElem?_append_right (by rw [hf, Nat.succ_mul]; omega), hf, show (k + 1) * size + c - size = k * size + c by rw [Nat.succ_mul]; omega]
      exact ih k (by simpa using hk)
end

theorem owns_len {w : World} {base : Nat} {e : TypeId} {size n : Nat} {v : Value} {xs : List Value} (h : w.ownsRow base e size v n xs) (hn : 0 < n) : ∃ g cap, v = .slice (some ⟨g, 0, none⟩) n cap ∧ base ≤ g ∧ g < w.heap.size ∧ n ≤ cap := by
  rcases h.2 with ⟨_, h0⟩ | ⟨g, cap, cur, hv, hb, hg, hc, _⟩
  · omega
  · refine ⟨g, cap, hv, hb, ?_, hc⟩
    rcases Nat.lt_or_ge g w.heap.size with h | h
    · exact h
    · rw [Array.getElem?_eq_none h] at hg; cases hg

/-- An owned row's slice, whatever it is: its parts. -/
theorem owns_slice {w : World} {base : Nat} {e : TypeId} {size n : Nat} {v : Value} {xs : List Value} (h : w.ownsRow base e size v n xs) : ∃ p cap, v = .slice p n cap := by
  rcases h.2 with ⟨hv, h0⟩ | ⟨g, cap, cur, hv, _⟩
  · exact ⟨none, 0, by rw [hv, h0]⟩
  · exact ⟨_, cap, hv⟩

theorem new_cells (w : World) (cs : List Value) (t : TypeId) : ∀ j u, cs[j]? = some u → (w.alloc (.cells cs.toArray t)).cell? ((⟨w.heap.size, 0, none⟩ : Addr).add j) = some u := by
  intro j u hu
  have h : (w.alloc (.cells cs.toArray t)).heap[w.heap.size]? = some (.cells cs.toArray t (0, 0)) := heap_alloc_new w _
  have e : ((⟨w.heap.size, 0, none⟩ : Addr).add j) = ⟨w.heap.size, j, none⟩ := by
    unfold Addr.add
    split
    · rename_i h0; rw [h0]
    · simp
  rw [e, cell_of_row _ _ _ _ _ _ h]
  simpa using hu

/-- Where an appended row lies: where it lay, or in a new block. -/
def Lies (v : Value) (g H : Nat) : Prop := v.ownBlock = some g ∨ H ≤ g

/-- Behind an append to a row, one block laid ahead of it: a block that is not the row's is as it was. -/
theorem push_facts {w w1 : World} {o : Obj} {v : Value} {ab : Nat} (hlt : ab < w.heap.size) (hne : v.ownBlock ≠ some ab) (hgr : (w.alloc o).drew.grownBy w1 v.ownBlock) : w1.heap[ab]? = w.heap[ab]? ∧ Fr (fun k => k = ab ∨ v.ownBlock = some k) w w1 :=
  ⟨(hgr.block ab (by simp; omega) (fun e => hne e.symm)).trans (Below.heap_alloc w o ab hlt), Fr.trans (((Fr.refl _ w).alloc _).drew) (Fr.of_grown hgr (fun i _ h => h)) (fun i h _ => .inr h)⟩

theorem cell_set_same (w : World) (p : Addr) (u v : Value) (h : w.cell? p = some v) : (w.setCell p u).cell? p = some u := by
  unfold World.cell? at h
  unfold World.cell? World.setCell
  simp only [Array.getElem?_modify, if_true]
  cases hb : w.heap[p.block]? with
  | none => rw [hb] at h; cases h
  | some o =>
    rw [hb] at h
    cases o with
    | cells c e fz =>
      simp only [] at h
      by_cases hs : p.spot.isSome = true
      · simp [hs] at h
      · simp only [hs] at h
        have hlt := (Array.getElem?_eq_some_iff.1 h).1
        simp [hs, hlt]
    | _ => cases h

theorem frozen_set (w : World) (p q : Addr) (u : Value) : (w.setCell p u).frozen? q = w.frozen? q := by
  unfold World.frozen? World.setCell
  simp only [Array.getElem?_modify]
  by_cases h : p.block = q.block
  · simp only [h, if_true]
    cases w.heap[q.block]? with
    | none => rfl
    | some o => cases o <;> rfl
  · simp only [h, if_false]

/-- In block b all cells but that at o are as they were. -/
def Others (b o : Nat) (w w' : World) : Prop := ∀ k, k ≠ o → w'.cell? ⟨b, k, none⟩ = w.cell? ⟨b, k, none⟩ ∧ w'.frozen? ⟨b, k, none⟩ = w.frozen? ⟨b, k, none⟩

theorem Others.trans {b o : Nat} {w w1 w2 : World} (h : Others b o w w1) (k : Others b o w1 w2) : Others b o w w2 := fun i hi => ⟨(k i hi).1.trans (h i hi).1, (k i hi).2.trans (h i hi).2⟩
theorem Others.of_block {b o : Nat} {w w1 : World} (h : w1.heap[b]? = w.heap[b]?) : Others b o w w1 := fun _ _ => ⟨World.cell?_of_block h, World.frozen?_of_block h⟩
theorem Others.set (b o : Nat) (w : World) (u : Value) : Others b o w (w.setCell ⟨b, o, none⟩ u) := fun k hk =>
  ⟨World.cell?_setCell_other _ _ _ _ (by intro e; injection e with _ h _; omega), frozen_set _ _ _ _⟩

/-- What is left by 'x.f = append(x.f, ..)': the slot holds the grown slice, the row is owned. -/
theorem push_end {w w1 : World} {v : Value} {base : Nat} {e : TypeId} {size n' g cap H : Nat} {xs : List Value} {ab ao : Nat} (hlt : ab < w.heap.size) (hne : v.ownBlock ≠ some ab) (hpf : w1.heap[ab]? = w.heap[ab]? ∧ Fr (fun k => k = ab ∨ v.ownBlock = some k) w w1)
    (hown : w1.ownsRow base e size (.slice (some ⟨g, 0, none⟩) n' cap) n' xs) (hat : v.ownBlock = some g ∨ g = H) (hH : w.heap.size ≤ H) {u : Value} (hc : w1.cell? ⟨ab, ao, none⟩ = some u) (hf : w1.frozen? ⟨ab, ao, none⟩ = false) :
    (w1.setCell ⟨ab, ao, none⟩ (.slice (some ⟨g, 0, none⟩) n' cap)).cell? ⟨ab, ao, none⟩ = some (.slice (some ⟨g, 0, none⟩) n' cap) ∧ (w1.setCell ⟨ab, ao, none⟩ (.slice (some ⟨g, 0, none⟩) n' cap)).frozen? ⟨ab, ao, none⟩ = false ∧
      (w1.setCell ⟨ab, ao, none⟩ (.slice (some ⟨g, 0, none⟩) n' cap)).ownsRow base e size (.slice (some ⟨g, 0, none⟩) n' cap) n' xs ∧
      Fr (fun k => k = ab ∨ v.ownBlock = some k) w (w1.setCell ⟨ab, ao, none⟩ (.slice (some ⟨g, 0, none⟩) n' cap)) ∧ Lies v g w.heap.size ∧ g ≠ ab ∧ Others ab ao w (w1.setCell ⟨ab, ao, none⟩ (.slice (some ⟨g, 0, none⟩) n' cap)) := by
  obtain ⟨hblk, hfr⟩ := hpf
  have hg : g ≠ ab := by
    rintro rfl
    rcases hat with h | h
    · exact hne h
    · omega
  refine ⟨cell_set_same _ _ _ _ hc, by rw [frozen_set]; exact hf, ?_, hfr.setCell (fun _ => .inl rfl) _, hat.imp id (fun h => by omega), hg, (Others.of_block hblk).trans (Others.set _ _ _ _)⟩
  refine ((Fr.refl (fun k => k = ab) w1).setCell (p := ⟨ab, ao, none⟩) (fun _ => rfl) _).owns hown ?_
  intro g' h'
  have : g = g' := by simpa [Value.ownBlock] using h'
  subst this
  exact hg

theorem rowOf_set3 {α : Type} (f : α → List Value) (hf : ∀ x, (f x).length = 3) (l : List α) (k : Nat) (x : α) (a b c : Value) (hx : f x = [a, b, c]) (hk : k < l.length) :
    (((rowOf f l).set (k * 3) a).set (k * 3 + 1) b).set (k * 3 + 2) c = rowOf f (l.set k x) := by
  induction l generalizing k with
  | nil => simp at hk
  | cons y l ih =>
    cases k with
    | zero =>
      have hy := hf y
      match hfy : f y, hy with
      | [p, q, r], _ => simp [rowOf, hfy, hx]
    | succ k =>
      have h1 : rowOf f (y :: l) = f y ++ rowOf f l := by simp [rowOf]
      have h2 : rowOf f ((y :: l).set (k + 1) x) = f y ++ rowOf f (l.set k x) := by simp [rowOf]
      rw [h1, h2, ← ih k (by simpa using hk)]
      have hl := hf y
      rw [List.set_append_right _ _ (by omega), List.set_append_right _ _ (by omega), List.set_append_right _ _ (by omega), hl,
        show (k + 1) * 3 - 3 = k * 3 by omega, show (k + 1) * 3 + 1 - 3 = k * 3 + 1 by omega, show (k + 1) * 3 + 2 - 3 = k * 3 + 2 by omega]

theorem rowOf_set1 {α : Type} (f : α → List Value) (hf : ∀ x, (f x).length = 1) (l : List α) (k : Nat) (x : α) (a : Value) (hx : f x = [a]) (hk : k < l.length) :
    (rowOf f l).set k a = rowOf f (l.set k x) := by
  induction l generalizing k with
  | nil => simp at hk
  | cons y l ih =>
    cases k with
    | zero =>
      have hy := hf y
      match hfy : f y, hy with
      | [p], _ => simp [rowOf, hfy, hx]
    | succ k =>
      have h1 : rowOf f (y :: l) = f y ++ rowOf f l := by simp [rowOf]
      have h2 : rowOf f ((y :: l).set (k + 1) x) = f y ++ rowOf f (l.set k x) := by simp [rowOf]
      rw [h1, h2, ← ih k (by simpa using hk)]
      have hl := hf y
      rw [List.set_append_right _ _ (by omega), hl, show (k + 1) - 1 = k by omega]

theorem rowOf_set4 {α : Type} (f : α → List Value) (hf : ∀ x, (f x).length = 4) (l : List α) (k : Nat) (x : α) (a b c d : Value) (hx : f x = [a, b, c, d]) (hk : k < l.length) :
    ((((rowOf f l).set (k * 4) a).set (k * 4 + 1) b).set (k * 4 + 2) c).set (k * 4 + 3) d = rowOf f (l.set k x) := by
  induction l generalizing k with
  | nil => simp at hk
  | cons y l ih =>
    cases k with
    | zero =>
      have hy := hf y
      match hfy : f y, hy with
      | [p, q, r, s], _ => simp [rowOf, hfy, hx]
    | succ k =>
      have h1 : rowOf f (y :: l) = f y ++ rowOf f l := by simp [rowOf]
      have h2 : rowOf f ((y :: l).set (k + 1) x) = f y ++ rowOf f (l.set k x) := by simp [rowOf]
      rw [h1, h2, ← ih k (by simpa using hk)]
      have hl := hf y
      rw [List.set_append_right _ _ (by omega), List.set_append_right _ _ (by omega), List.set_append_right _ _ (by omega), List.set_append_right _ _ (by omega), hl,
        show (k + 1) * 4 - 4 = k * 4 by omega, show (k + 1) * 4 + 1 - 4 = k * 4 + 1 by omega, show (k + 1) * 4 + 2 - 4 = k * 4 + 2 by omega, show (k + 1) * 4 + 3 - 4 = k * 4 + 3 by omega]

end Go.Proofs.YtedcpckocedcoaaGreat
