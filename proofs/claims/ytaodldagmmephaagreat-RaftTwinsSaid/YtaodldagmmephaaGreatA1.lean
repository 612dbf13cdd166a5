/- Merged texts: Fr HeapList Ints GApp Sink Mix MixM Step Later Loud. -/
import Derived.Test.YtaodldagmmephaaGreatRows
import Derived.WalkKit
import Derived.WalkSpells
import Derived.WalkLawsBesides
import Derived.Laws.OwnMore
import Derived.Laws.Rows
import Derived.StillTailTactics
import Derived.Lib.Hide
import Derived.Laws.AppendOwnNone
import Derived.Maps.AppendAt
import Derived.Deep.AppendLies
import Derived.StillTail
import Derived.OrdersHeld
import Derived.Deep.RegionHeld
import Derived.Deep.Quiet
import Derived.BigQuiet
/- Frames: which blocks of memory a call may have changed; rows of cells; small facts (no function of the program is named). -/
namespace Go.Proofs.YtaodldagmmephaaGreat
open Go.RowKit

/-- Only blocks in S, and new ones, may have changed. -/
structure Fr (S : Nat → Prop) (w w' : World) : Prop where
  os : w'.os = w.os
  tape : w'.tape = w.tape
  output : w'.output = w.output
  size : w.heap.size ≤ w'.heap.size
  block : ∀ k, k < w.heap.size → ¬ S k → w'.heap[k]? = w.heap[k]?

section
variable {S T : Nat → Prop} {w w1 w2 : World}
theorem Fr.refl (S : Nat → Prop) (w : World) : Fr S w w := ⟨rfl, rfl, rfl, Nat.le_refl _, fun _ _ _ => rfl⟩
theorem Fr.trans (h : Fr S w w1) (k : Fr T w1 w2) (hT : ∀ i, T i → i < w.heap.size → S i) : Fr S w w2 :=
  ⟨k.os.trans h.os, k.tape.trans h.tape, k.output.trans h.output, Nat.le_trans h.size k.size, fun i hi hs =>
    (k.block i (Nat.lt_of_lt_of_le hi h.size) (fun t => hs (hT i t hi))).trans (h.block i hi hs)⟩
theorem Fr.mono (h : Fr S w w1) (hT : ∀ i, i < w.heap.size → S i → T i) : Fr T w w1 :=
  ⟨h.os, h.tape, h.output, h.size, fun i hi hs => h.block i hi (fun s => hs (hT i hi s))⟩
theorem Fr.drew (h : Fr S w w1) : Fr S w w1.drew := ⟨h.os, h.tape, h.output, h.size, h.block⟩
theorem Fr.drewN (h : Fr S w w1) (n : Nat) : Fr S w (w1.drewN n) := ⟨h.os, h.tape, h.output, h.size, h.block⟩
theorem Fr.alloc (h : Fr S w w1) (o : Obj) : Fr S w (w1.alloc o) :=
  ⟨h.os, h.tape, h.output, Nat.le_trans h.size (by simp), fun i hi hs => (Below.heap_alloc w1 o i (Nat.lt_of_lt_of_le hi h.size)).trans (h.block i hi hs)⟩
theorem Fr.setCell (h : Fr S w w1) {p : Addr} (hp : p.block < w.heap.size → S p.block) (u : Value) : Fr S w (w1.setCell p u) :=
  ⟨h.os, h.tape, h.output, by simpa [World.setCell] using h.size, fun i hi hs => (Below.heap_setCell w1 p u i (by
    rintro rfl
    exact hs (hp hi))).trans (h.block i hi hs)⟩
theorem Fr.of_below {B : Nat} (h : Below B w w1) (hS : ∀ i, i < w.heap.size → B ≤ i → S i) : Fr S w w1 :=
  ⟨h.os, h.tape, h.output, h.size, fun i hi hs => h.block i (by rcases Nat.lt_or_ge i B with g | g; exact g; exact absurd (hS i hi g) hs)⟩
theorem Fr.of_all (h : Below w.heap.size w w1) : Fr S w w1 := Fr.of_below h (fun i hi hb => by omega)
theorem Fr.of_grown {row : Option Nat} (h : w.grownBy w1 row) (hS : ∀ i, i < w.heap.size → row = some i → S i) : Fr S w w1 :=
  ⟨h.os, h.tape, h.output, h.size, fun i hi hs => h.block i hi (fun e => hs (hS i hi e.symm))⟩
theorem Fr.below {B : Nat} (h : Fr S w w1) (hB : B ≤ w.heap.size) (hS : ∀ i, S i → B ≤ i) : Below B w w1 :=
  ⟨h.os, h.tape, h.output, h.size, fun i hi => h.block i (by omega) (fun s => by have := hS i s; omega)⟩
theorem Fr.cell (h : Fr S w w1) {p : Addr} (hp : p.block < w.heap.size) (hs : ¬ S p.block) : w1.cell? p = w.cell? p := World.cell?_of_block (h.block _ hp hs)
theorem Fr.frozen (h : Fr S w w1) {p : Addr} (hp : p.block < w.heap.size) (hs : ¬ S p.block) : w1.frozen? p = w.frozen? p := World.frozen?_of_block (h.block _ hp hs)
theorem Fr.grown {row : Option Nat} (h : Fr S w w1) (hS : ∀ i, S i → row = some i) : w.grownBy w1 row :=
  ⟨h.os, h.tape, h.output, h.size, fun i hi hne => h.block i hi (fun s => hne (hS i s).symm)⟩
theorem Fr.owns {base : Nat} {e : TypeId} {size n : Nat} {v : Value} {xs : List Value} (h : Fr S w w1) (ho : w.ownsRow base e size v n xs) (hS : ∀ g, v.ownBlock = some g → ¬ S g) : w1.ownsRow base e size v n xs := by
  refine ⟨ho.1, ?_⟩
  rcases ho.2 with hv | ⟨g, cap, cur, hv, hb, hg, hrest⟩
  · exact .inl hv
  · refine .inr ⟨g, cap, cur, hv, hb, ?_, hrest⟩
    have hlt : g < w.heap.size := by
      rcases Nat.lt_or_ge g w.heap.size with h | h
      · exact h
      · rw [Array.getElem?_eq_none h] at hg; cases hg
    rw [h.block g hlt (hS g (by rw [hv]; rfl))]
    exact hg
end

theorem cell_lt {w : World} {p : Addr} {v : Value} (h : w.cell? p = some v) : p.block < w.heap.size := by
  rcases Nat.lt_or_ge p.block w.heap.size with g | g
  · exact g
  · unfold World.cell? at h
    rw [Array.getElem?_eq_none g] at h
    cases h

/-- A region whose head only reads or calls quietly, and whose tail goes in one order: the world behind the draw is any that S holds of. -/
theorem region_tail {P : Program} {id : Nat} {Q : Exit → Act → World → Prop} {a : Act} {w : World} {l : List Oper} (n : Nat) (hm : P.follows .mixedOrders = true) (hB : Region.lexTailB .any l.toArray n = true)
    (S : World → Prop) (hS : S w.drew) (h : ∀ V, S V → wpStill P l.toArray V (fun a' => wpList P l.toArray Q (l.drop n) a' V) (l.take n) a) : (Code.region id l.toArray true).wp P Q a w :=
  wp_region_still_tail n hm hB (h _ hS)

/-- A region that only reads or calls quietly, in the order of the text. -/
theorem region_all {P : Program} {id : Nat} {Q : Exit → Act → World → Prop} {a : Act} {w : World} {l : List Oper} (hm : P.follows .mixedOrders = true) (hB : Region.lexB .any l.toArray = true)
    (S : World → Prop) (hS : S w.drew) (h : ∀ V, S V → wpStill P l.toArray V (fun a' => Q .normal a' V) l a) : (Code.region id l.toArray true).wp P Q a w :=
  wp_region_still_lit hm hB (h _ hS)

theorem still_of {P : Program} {f : FuncId} {args : Array Value} {w : World} {v : Value} (h : Calls P f args w fun e w' => e = .returned v ∧ w = w') : Calls P f args w fun e w' => e = .returned v ∧ w' = w :=
  h.mono fun _ _ ⟨a, b⟩ => ⟨a, b.symm⟩

/-- The cells of a list of things of 'size' cells each. -/
def rowOf {α : Type} (f : α → List Value) (l : List α) : List Value := l.flatMap f

section
variable {α : Type} [Inhabited α] (f : α → List Value) {size : Nat}
omit [Inhabited α] in
theorem rowOf_length (hf : ∀ x, (f x).length = size) (l : List α) : (rowOf f l).length = l.length * size := by
  induction l with
  | nil => simp [rowOf]
  | cons x l ih => simp only [rowOf, List.flatMap_cons, List.length_append, List.length_cons] at *; rw [ih, hf, Nat.succ_mul]; omega
omit [Inhabited α] in
theorem rowOf_append (l m : List α) : rowOf f (l ++ m) = rowOf f l ++ rowOf f m := by simp [rowOf]
omit [Inhabited α] in
theorem rowOf_one (x : α) : rowOf f [x] = f x := by simp [rowOf]
theorem rowOf_at (hf : ∀ x, (f x).length = size) (l : List α) (k c : Nat) (hk : k < l.length) (hc : c < size) : (rowOf f l)[k * size + c]? = (f (l.getD k default))[c]? := by
  induction l generalizing k with
  | nil => simp at hk
  | cons x l ih =>
    cases k with
    | zero => simp only [rowOf, List.flatMap_cons, Nat.zero_mul, Nat.zero_add, List.getD_cons_zero]; rw [List.getElem?_append_left (by rw [hf]; exact hc)]
    | succ k =>
      simp only [rowOf, List.flatMap_cons, List.getD_cons_succ]
      rw [List.getElem?_append_right (by rw [hf, Nat.succ_mul]; omega), hf, show (k + 1) * size + c - size = k * size + c by rw [Nat.succ_mul]; omega]
      exact ih k (by simpa using hk)
end

theorem owns_len {w : World} {base : Nat} {e : TypeId} {size n : Nat} {v : Value} {xs : List Value} (h : w.ownsRow base e size v n xs) (hn : 0 < n) : ∃ g cap, v = .slice (some ⟨g, 0, none⟩) n cap ∧ base ≤ g ∧ g < w.heap.size ∧ n ≤ cap := by
  rcases h.2 with ⟨_, h0⟩ | ⟨g, cap, cur, hv, hb, hg, hc, _⟩
  · omega
  · refine ⟨g, cap, hv, hb, ?_, hc⟩
    rcases Nat.lt_or_ge g w.heap.size with h | h
    · exact h
    · rw [Array.getElem?_eq_none h] at hg; cases hg

/-- An owned row's slice, whatever it is: its parts. -/
theorem owns_slice {w : World} {base : Nat} {e : TypeId} {size n : Nat} {v : Value} {xs : List Value} (h : w.ownsRow base e size v n xs) : ∃ p cap, v = .slice p n cap := by
  rcases h.2 with ⟨hv, h0⟩ | ⟨g, cap, cur, hv, _⟩
  · exact ⟨none, 0, by rw [hv, h0]⟩
  · exact ⟨_, cap, hv⟩

theorem new_cells (w : World) (cs : List Value) (t : TypeId) : ∀ j u, cs[j]? = some u → (w.alloc (.cells cs.toArray t)).cell? ((⟨w.heap.size, 0, none⟩ : Addr).add j) = some u := by
  intro j u hu
  have h : (w.alloc (.cells cs.toArray t)).heap[w.heap.size]? = some (.cells cs.toArray t (0, 0)) := heap_alloc_new w _
  have e : ((⟨w.heap.size, 0, none⟩ : Addr).add j) = ⟨w.heap.size, j, none⟩ := by
    unfold Addr.add
    split
    · rename_i h0; rw [h0]
    · simp
  rw [e, cell_of_row _ _ _ _ _ _ h]
  simpa using hu

/-- Where an appended row lies: where it lay, or in a new block. -/
def Lies (v : Value) (g H : Nat) : Prop := v.ownBlock = some g ∨ H ≤ g

/-- Behind an append to a row, one block laid ahead of it: a block that is not the row's is as it was. -/
theorem push_facts {w w1 : World} {o : Obj} {v : Value} {ab : Nat} (hlt : ab < w.heap.size) (hne : v.ownBlock ≠ some ab) (hgr : (w.alloc o).drew.grownBy w1 v.ownBlock) : w1.heap[ab]? = w.heap[ab]? ∧ Fr (fun k => k = ab ∨ v.ownBlock = some k) w w1 :=
  ⟨(hgr.block ab (by simp; omega) (fun e => hne e.symm)).trans (Below.heap_alloc w o ab hlt), Fr.trans (((Fr.refl _ w).alloc _).drew) (Fr.of_grown hgr (fun i _ h => h)) (fun i h _ => .inr h)⟩

theorem cell_set_same (w : World) (p : Addr) (u v : Value) (h : w.cell? p = some v) : (w.setCell p u).cell? p = some u := by
  unfold World.cell? at h
  unfold World.cell? World.setCell
  simp only [Array.getElem?_modify, if_true]
  cases hb : w.heap[p.block]? with
  | none => rw [hb] at h; cases h
  | some o =>
    rw [hb] at h
    cases o with
    | cells c e fz =>
      simp only [] at h
      by_cases hs : p.spot.isSome = true
      · simp [hs] at h
      · simp only [hs] at h
        have hlt := (Array.getElem?_eq_some_iff.1 h).1
        simp [hs, hlt]
    | _ => cases h

theorem frozen_set (w : World) (p q : Addr) (u : Value) : (w.setCell p u).frozen? q = w.frozen? q := by
  unfold World.frozen? World.setCell
  simp only [Array.getElem?_modify]
  by_cases h : p.block = q.block
  · simp only [h, if_true]
    cases w.heap[q.block]? with
    | none => rfl
    | some o => cases o <;> rfl
  · simp only [h, if_false]

/-- In block b all cells but that at o are as they were. -/
def Others (b o : Nat) (w w' : World) : Prop := ∀ k, k ≠ o → w'.cell? ⟨b, k, none⟩ = w.cell? ⟨b, k, none⟩ ∧ w'.frozen? ⟨b, k, none⟩ = w.frozen? ⟨b, k, none⟩

theorem Others.trans {b o : Nat} {w w1 w2 : World} (h : Others b o w w1) (k : Others b o w1 w2) : Others b o w w2 := fun i hi => ⟨(k i hi).1.trans (h i hi).1, (k i hi).2.trans (h i hi).2⟩
theorem Others.of_block {b o : Nat} {w w1 : World} (h : w1.heap[b]? = w.heap[b]?) : Others b o w w1 := fun _ _ => ⟨World.cell?_of_block h, World.frozen?_of_block h⟩
theorem Others.set (b o : Nat) (w : World) (u : Value) : Others b o w (w.setCell ⟨b, o, none⟩ u) := fun k hk =>
  ⟨World.cell?_setCell_other _ _ _ _ (by intro e; injection e with _ h _; omega), frozen_set _ _ _ _⟩

/-- What is left by 'x.f = append(x.f, ..)': the slot holds the grown slice, the row is owned. -/
theorem push_end {w w1 : World} {v : Value} {base : Nat} {e : TypeId} {size n' g cap H : Nat} {xs : List Value} {ab ao : Nat} (hlt : ab < w.heap.size) (hne : v.ownBlock ≠ some ab) (hpf : w1.heap[ab]? = w.heap[ab]? ∧ Fr (fun k => k = ab ∨ v.ownBlock = some k) w w1)
    (hown : w1.ownsRow base e size (.slice (some ⟨g, 0, none⟩) n' cap) n' xs) (hat : v.ownBlock = some g ∨ g = H) (hH : w.heap.size ≤ H) {u : Value} (hc : w1.cell? ⟨ab, ao, none⟩ = some u) (hf : w1.frozen? ⟨ab, ao, none⟩ = false) :
    (w1.setCell ⟨ab, ao, none⟩ (.slice (some ⟨g, 0, none⟩) n' cap)).cell? ⟨ab, ao, none⟩ = some (.slice (some ⟨g, 0, none⟩) n' cap) ∧ (w1.setCell ⟨ab, ao, none⟩ (.slice (some ⟨g, 0, none⟩) n' cap)).frozen? ⟨ab, ao, none⟩ = false ∧
      (w1.setCell ⟨ab, ao, none⟩ (.slice (some ⟨g, 0, none⟩) n' cap)).ownsRow base e size (.slice (some ⟨g, 0, none⟩) n' cap) n' xs ∧
      Fr (fun k => k = ab ∨ v.ownBlock = some k) w (w1.setCell ⟨ab, ao, none⟩ (.slice (some ⟨g, 0, none⟩) n' cap)) ∧ Lies v g w.heap.size ∧ g ≠ ab ∧ Others ab ao w (w1.setCell ⟨ab, ao, none⟩ (.slice (some ⟨g, 0, none⟩) n' cap)) := by
  obtain ⟨hblk, hfr⟩ := hpf
  have hg : g ≠ ab := by
    rintro rfl
    rcases hat with h | h
    · exact hne h
    · omega
  refine ⟨cell_set_same _ _ _ _ hc, by rw [frozen_set]; exact hf, ?_, hfr.setCell (fun _ => .inl rfl) _, hat.imp id (fun h => by omega), hg, (Others.of_block hblk).trans (Others.set _ _ _ _)⟩
  refine ((Fr.refl (fun k => k = ab) w1).setCell (p := ⟨ab, ao, none⟩) (fun _ => rfl) _).owns hown ?_
  intro g' h'
  have : g = g' := by simpa [Value.ownBlock] using h'
  subst this
  exact hg

theorem rowOf_set3 {α : Type} (f : α → List Value) (hf : ∀ x, (f x).length = 3) (l : List α) (k : Nat) (x : α) (a b c : Value) (hx : f x = [a, b, c]) (hk : k < l.length) :
    (((rowOf f l).set (k * 3) a).set (k * 3 + 1) b).set (k * 3 + 2) c = rowOf f (l.set k x) := by
  induction l generalizing k with
  | nil => simp at hk
  | cons y l ih =>
    cases k with
    | zero =>
      have hy := hf y
      match hfy : f y, hy with
      | [p, q, r], _ => simp [rowOf, hfy, hx]
    | succ k =>
      have h1 : rowOf f (y :: l) = f y ++ rowOf f l := by simp [rowOf]
      have h2 : rowOf f ((y :: l).set (k + 1) x) = f y ++ rowOf f (l.set k x) := by simp [rowOf]
      rw [h1, h2, ← ih k (by simpa using hk)]
      have hl := hf y
      rw [List.set_append_right _ _ (by omega), List.set_append_right _ _ (by omega), List.set_append_right _ _ (by omega), hl,
        show (k + 1) * 3 - 3 = k * 3 by omega, show (k + 1) * 3 + 1 - 3 = k * 3 + 1 by omega, show (k + 1) * 3 + 2 - 3 = k * 3 + 2 by omega]

theorem rowOf_set1 {α : Type} (f : α → List Value) (hf : ∀ x, (f x).length = 1) (l : List α) (k : Nat) (x : α) (a : Value) (hx : f x = [a]) (hk : k < l.length) :
    (rowOf f l).set k a = rowOf f (l.set k x) := by
  induction l generalizing k with
  | nil => simp at hk
  | cons y l ih =>
    cases k with
    | zero =>
      have hy := hf y
      match hfy : f y, hy with
      | [p], _ => simp [rowOf, hfy, hx]
    | succ k =>
      have h1 : rowOf f (y :: l) = f y ++ rowOf f l := by simp [rowOf]
      have h2 : rowOf f ((y :: l).set (k + 1) x) = f y ++ rowOf f (l.set k x) := by simp [rowOf]
      rw [h1, h2, ← ih k (by simpa using hk)]
      have hl := hf y
      rw [List.set_append_right _ _ (by omega), hl, show (k + 1) - 1 = k by omega]

theorem rowOf_set4 {α : Type} (f : α → List Value) (hf : ∀ x, (f x).length = 4) (l : List α) (k : Nat) (x : α) (a b c d : Value) (hx : f x = [a, b, c, d]) (hk : k < l.length) :
    ((((rowOf f l).set (k * 4) a).set (k * 4 + 1) b).set (k * 4 + 2) c).set (k * 4 + 3) d = rowOf f (l.set k x) := by
  induction l generalizing k with
  | nil => simp at hk
  | cons y l ih =>
    cases k with
    | zero =>
      have hy := hf y
      match hfy : f y, hy with
      | [p, q, r, s], _ => simp [rowOf, hfy, hx]
    | succ k =>
      have h1 : rowOf f (y :: l) = f y ++ rowOf f l := by simp [rowOf]
      have h2 : rowOf f ((y :: l).set (k + 1) x) = f y ++ rowOf f (l.set k x) := by simp [rowOf]
      rw [h1, h2, ← ih k (by simpa using hk)]
      have hl := hf y
      rw [List.set_append_right _ _ (by omega), List.set_append_right _ _ (by omega), List.set_append_right _ _ (by omega), List.set_append_right _ _ (by omega), hl,
        show (k + 1) * 4 - 4 = k * 4 by omega, show (k + 1) * 4 + 1 - 4 = k * 4 + 1 by omega, show (k + 1) * 4 + 2 - 4 = k * 4 + 2 by omega, show (k + 1) * 4 + 3 - 4 = k * 4 + 3 by omega]

end Go.Proofs.YtaodldagmmephaaGreat

/- Plain facts on binary heaps in lists (no program): exchange, the invariants of sifting up and down. -/
namespace Go.Proofs.YtaodldagmmephaaGreat.HL

variable {α : Type} [Inhabited α]

/-- Element k. -/
def el (l : List α) (k : Nat) : α := l.getD k default

/-- Two elements exchanged. -/
def swp (l : List α) (i j : Nat) : List α := (l.set i (el l j)).set j (el l i)

theorem swp_length (l : List α) (i j : Nat) : (swp l i j).length = l.length := by simp [swp]

theorem el_set (l : List α) (i k : Nat) (x : α) (hi : i < l.length) : el (l.set i x) k = if k = i then x else el l k := by
  unfold el
  rw [List.getD_eq_getElem?_getD, List.getD_eq_getElem?_getD, List.getElem?_set]
  by_cases h : i = k
  · subst h; simp [hi]
  · rw [if_neg h, if_neg (fun e => h e.symm)]

theorem el_swp (l : List α) (i j k : Nat) (hi : i < l.length) (hj : j < l.length) :
    el (swp l i j) k = if k = j then el l i else if k = i then el l j else el l k := by
  unfold swp
  rw [el_set _ _ _ _ (by simpa using hj), el_set _ _ _ _ hi]

theorem el_append_left (l m : List α) (k : Nat) (h : k < l.length) : el (l ++ m) k = el l k := by
  unfold el
  rw [List.getD_eq_getElem?_getD, List.getD_eq_getElem?_getD, List.getElem?_append_left h]

theorem el_mem (l : List α) (k : Nat) (h : k < l.length) : el l k ∈ l := by
  unfold el
  rw [List.getD_eq_getElem?_getD, List.getElem?_eq_getElem h]
  simp

theorem el_eq (l : List α) (k : Nat) (h : k < l.length) : l[k]? = some (el l k) := by
  unfold el
  rw [List.getD_eq_getElem?_getD, List.getElem?_eq_getElem h]
  rfl

theorem ext_el {l m : List α} (hl : l.length = m.length) (h : ∀ k, k < l.length → el l k = el m k) : l = m := by
  refine List.ext_getElem? fun k => ?_
  by_cases hk : k < l.length
  · rw [el_eq l k hk, el_eq m k (by omega), h k hk]
  · rw [List.getElem?_eq_none (by omega), List.getElem?_eq_none (by omega)]

theorem swp_perm (l : List α) (i j : Nat) (hi : i < l.length) (hj : j < l.length) : (swp l i j).Perm l := by
  induction l generalizing i j with
  | nil => simp at hi
  | cons x l ih =>
    cases i with
    | zero =>
      cases j with
      | zero => simp [swp, el]
      | succ j =>
        have hj' : j < l.length := by simpa using hj
        have e : swp (x :: l) 0 (j + 1) = el l j :: l.set j x := by simp [swp, el]
        rw [e]
        have h1 : l = l.take j ++ el l j :: l.drop (j + 1) := by
          conv => lhs; rw [← List.take_append_drop j l, List.drop_eq_getElem_cons hj']
          congr 1
          have := el_eq l j hj'
          rw [List.getElem?_eq_getElem hj'] at this
          simp at this
          rw [this]
        have h2 : l.set j x = l.take j ++ x :: l.drop (j + 1) := by
          rw [List.set_eq_take_append_cons_drop, if_pos hj']
        rw [h2]
        refine List.Perm.trans ?_ (List.Perm.cons x (List.Perm.of_eq h1.symm))
        have p1 : (el l j :: (l.take j ++ x :: l.drop (j + 1))).Perm (el l j :: x :: (l.take j ++ l.drop (j + 1))) := List.Perm.cons _ List.perm_middle
        have p2 : (x :: (l.take j ++ el l j :: l.drop (j + 1))).Perm (x :: el l j :: (l.take j ++ l.drop (j + 1))) := List.Perm.cons _ List.perm_middle
        exact p1.trans ((List.Perm.swap _ _ _).trans p2.symm)
    | succ i =>
      cases j with
      | zero =>
        have hi' : i < l.length := by simpa using hi
        have e : swp (x :: l) (i + 1) 0 = el l i :: l.set i x := by simp [swp, el]
        have e' : swp (x :: l) 0 (i + 1) = el l i :: l.set i x := by simp [swp, el]
        rw [e]
        have h1 : l = l.take i ++ el l i :: l.drop (i + 1) := by
          conv => lhs; rw [← List.take_append_drop i l, List.drop_eq_getElem_cons hi']
          congr 1
          have := el_eq l i hi'
          rw [List.getElem?_eq_getElem hi'] at this
          simp at this
          rw [this]
        have h2 : l.set i x = l.take i ++ x :: l.drop (i + 1) := by
          rw [List.set_eq_take_append_cons_drop, if_pos hi']
        rw [h2]
        refine List.Perm.trans ?_ (List.Perm.cons x (List.Perm.of_eq h1.symm))
        have p1 : (el l i :: (l.take i ++ x :: l.drop (i + 1))).Perm (el l i :: x :: (l.take i ++ l.drop (i + 1))) := List.Perm.cons _ List.perm_middle
        have p2 : (x :: (l.take i ++ el l i :: l.drop (i + 1))).Perm (x :: el l i :: (l.take i ++ l.drop (i + 1))) := List.Perm.cons _ List.perm_middle
        exact p1.trans ((List.Perm.swap _ _ _).trans p2.symm)
      | succ j =>
        have e : swp (x :: l) (i + 1) (j + 1) = x :: swp l i j := by simp [swp, el]
        rw [e]
        exact List.Perm.cons x (ih i j (by simpa using hi) (by simpa using hj))

/-- What an order must be for a heap: 'not less' is transitive, and 'less' is one-sided. -/
structure Ord (lt : α → α → Bool) : Prop where
  asymm : ∀ a b, lt a b = true → lt b a = false
  trans : ∀ a b c, lt b a = false → lt c b = false → lt c a = false

/-- The pair of k and its parent is in order. -/
def okAt (lt : α → α → Bool) (l : List α) (k : Nat) : Prop := lt (el l k) (el l ((k - 1) / 2)) = false

/-- The first n elements are a heap, as far as parents from lo on are concerned. -/
def HeapTo (lt : α → α → Bool) (lo : Nat) (l : List α) (n : Nat) : Prop := ∀ k, 0 < k → k < n → lo ≤ (k - 1) / 2 → okAt lt l k

def IsHeap (lt : α → α → Bool) (l : List α) : Prop := HeapTo lt 0 l l.length

/-- All is in order but for j and its parent. -/
def UpInv (lt : α → α → Bool) (l : List α) (n j : Nat) : Prop :=
  (∀ k, 0 < k → k < n → k ≠ j → okAt lt l k) ∧ (∀ k, 0 < k → k < n → (k - 1) / 2 = j → 0 < j → lt (el l k) (el l ((j - 1) / 2)) = false)

theorem UpInv.done {lt : α → α → Bool} {l : List α} {n j : Nat} (h : UpInv lt l n j) (hj : j = 0 ∨ okAt lt l j) : HeapTo lt 0 l n := by
  intro k h0 hk _
  by_cases e : k = j
  · subst e
    rcases hj with hj | hj
    · omega
    · exact hj
  · exact h.1 k h0 hk e

theorem UpInv.step {lt : α → α → Bool} (O : Ord lt) {l : List α} {n j : Nat} (hn : n ≤ l.length) (hj : j < n) (h0 : 0 < j) (h : UpInv lt l n j)
    (hl : lt (el l j) (el l ((j - 1) / 2)) = true) : UpInv lt (swp l ((j - 1) / 2) j) n ((j - 1) / 2) := by
  have hp : (j - 1) / 2 < l.length := by omega
  have hj' : j < l.length := by omega
  have hpj : (j - 1) / 2 < j := by omega
  obtain ⟨h1, h2⟩ := h
  refine ⟨fun k k0 kn kp => ?_, fun k k0 kn kp p0 => ?_⟩
  · unfold okAt
    rw [el_swp _ _ _ _ hp hj', el_swp _ _ _ _ hp hj']
    by_cases e : k = j
    · subst e
      rw [if_pos rfl, if_neg (by omega), if_pos rfl]
      exact O.asymm _ _ hl
    · rw [if_neg e, if_neg kp]
      by_cases e2 : (k - 1) / 2 = j
      · rw [if_pos e2]
        exact h2 k k0 kn e2 h0
      · rw [if_neg e2]
        by_cases e3 : (k - 1) / 2 = (j - 1) / 2
        · rw [if_pos e3]
          have := h1 k k0 kn e
          unfold okAt at this
          rw [e3] at this
          exact O.trans _ _ _ (O.asymm _ _ hl) this
        · rw [if_neg e3]
          exact h1 k k0 kn e
  · rw [el_swp _ _ _ _ hp hj', el_swp _ _ _ _ hp hj']
    have g := h1 ((j - 1) / 2) (by omega) (by omega) (by omega)
    rw [if_neg (by omega : ¬ ((j - 1) / 2 - 1) / 2 = j), if_neg (by omega : ¬ ((j - 1) / 2 - 1) / 2 = (j - 1) / 2)]
    by_cases e : k = j
    · rw [if_pos e]
      exact g
    · rw [if_neg e, if_neg (by omega)]
      have h3 := h1 k k0 kn e
      unfold okAt at h3
      rw [kp] at h3
      exact O.trans _ _ _ g h3

/-- Sifting down from i0: all is in order but for i and its children (and, as long as i is i0, i0 and its parent). -/
def DownInv (lt : α → α → Bool) (lo i0 : Nat) (l : List α) (n i : Nat) : Prop :=
  (∀ k, 0 < k → k < n → lo ≤ (k - 1) / 2 → (k - 1) / 2 ≠ i → (k ≠ i0 ∨ i0 < i) → okAt lt l k) ∧
  (∀ k, 0 < k → k < n → (k - 1) / 2 = i → 0 < i → lo ≤ (i - 1) / 2 → lt (el l k) (el l ((i - 1) / 2)) = false)

/-- The lesser child of i among the first n. -/
def kid (lt : α → α → Bool) (l : List α) (n i : Nat) : Nat := if 2 * i + 2 < n ∧ lt (el l (2 * i + 2)) (el l (2 * i + 1)) = true then 2 * i + 2 else 2 * i + 1

theorem DownInv.step {lt : α → α → Bool} (O : Ord lt) {lo i0 : Nat} {l : List α} {n i : Nat} (hn : n ≤ l.length) (hi0 : i0 ≤ i) (h : DownInv lt lo i0 l n i) (hc : 2 * i + 1 < n)
    (hl : lt (el l (kid lt l n i)) (el l i) = true) : DownInv lt lo i0 (swp l i (kid lt l n i)) n (kid lt l n i) := by
  obtain ⟨h1, h2⟩ := h
  have hk : (kid lt l n i - 1) / 2 = i ∧ kid lt l n i < n ∧ i < kid lt l n i := by
    unfold kid
    split <;> omega
  have hsib : ∀ k, 0 < k → k < n → (k - 1) / 2 = i → lt (el l k) (el l (kid lt l n i)) = false := by
    intro k k0 kn ki
    have hk2 : k = 2 * i + 1 ∨ k = 2 * i + 2 := by omega
    unfold kid
    split
    · rename_i hs
      rcases hk2 with rfl | rfl
      · exact O.asymm _ _ hs.2
      · cases hx : lt (el l (2 * i + 2)) (el l (2 * i + 2)) with
        | false => rfl
        | true => rw [← hx]; exact O.asymm _ _ hx
    · rename_i hs
      rcases hk2 with rfl | rfl
      · cases hx : lt (el l (2 * i + 1)) (el l (2 * i + 1)) with
        | false => rfl
        | true => rw [← hx]; exact O.asymm _ _ hx
      · cases hx : lt (el l (2 * i + 2)) (el l (2 * i + 1)) with
        | false => rfl
        | true => exact absurd ⟨kn, hx⟩ hs
  generalize kid lt l n i = c at *
  obtain ⟨hc1, hc2, hc3⟩ := hk
  have hcl : c < l.length := by omega
  have hil : i < l.length := by omega
  refine ⟨fun k k0 kn klo kc kor => ?_, fun k k0 kn kc c0 clo => ?_⟩
  · unfold okAt
    rw [el_swp _ _ _ _ hil hcl, el_swp _ _ _ _ hil hcl, if_neg kc]
    by_cases e : k = c
    · subst e
      rw [if_pos rfl, if_pos hc1]
      exact O.asymm _ _ hl
    · rw [if_neg e]
      by_cases e2 : k = i
      · subst e2
        rw [if_pos rfl, if_neg (by omega)]
        exact h2 c (by omega) hc2 hc1 (by omega) klo
      · rw [if_neg e2]
        by_cases e3 : (k - 1) / 2 = i
        · rw [if_pos e3]
          exact hsib k k0 kn e3
        · rw [if_neg e3]
          exact h1 k k0 kn klo e3 (by omega)
  · rw [el_swp _ _ _ _ hil hcl, el_swp _ _ _ _ hil hcl, if_neg (by omega), if_neg (by omega), hc1, if_neg (by omega), if_pos rfl]
    have := h1 k k0 kn (by omega) (by omega) (by omega)
    unfold okAt at this
    rw [kc] at this
    exact this

/-- Where i has no child that is less, all is in order behind i0. -/
theorem DownInv.done {lt : α → α → Bool} (O : Ord lt) {lo i0 : Nat} {l : List α} {n i : Nat} (h : DownInv lt lo i0 l n i)
    (hc : n ≤ 2 * i + 1 ∨ lt (el l (kid lt l n i)) (el l i) = false) : ∀ k, 0 < k → k < n → lo ≤ (k - 1) / 2 → (k ≠ i0 ∨ i0 < i) → okAt lt l k := by
  intro k k0 kn klo kor
  by_cases e : (k - 1) / 2 = i
  · rcases hc with hc | hc
    · omega
    · unfold okAt
      rw [e]
      have hk2 : k = 2 * i + 1 ∨ k = 2 * i + 2 := by omega
      unfold kid at hc
      split at hc
      · rename_i hs
        rcases hk2 with rfl | rfl
        · exact O.trans _ _ _ hc (O.asymm _ _ hs.2)
        · exact hc
      · rename_i hs
        rcases hk2 with rfl | rfl
        · exact hc
        · cases hx : lt (el l (2 * i + 2)) (el l (2 * i + 1)) with
          | true => exact absurd ⟨kn, hx⟩ hs
          | false => exact O.trans _ _ _ hc hx
  · exact h.1 k k0 kn klo e kor

/-- The first one of a heap is least. -/
theorem IsHeap.least {lt : α → α → Bool} (O : Ord lt) {l : List α} (h : IsHeap lt l) : ∀ k, k < l.length → lt (el l k) (el l 0) = false := by
  intro k
  induction k using Nat.strongRecOn with
  | _ k ih =>
    intro hk
    by_cases k0 : k = 0
    · subst k0
      cases hx : lt (el l 0) (el l 0) with
      | false => rfl
      | true => rw [← hx]; exact O.asymm _ _ hx
    · have h1 := h k (by omega) hk (Nat.zero_le _)
      have h2 := ih ((k - 1) / 2) (by omega) (by omega)
      exact O.trans _ _ _ h2 h1

theorem IsHeap.least_mem {lt : α → α → Bool} (O : Ord lt) {l : List α} (h : IsHeap lt l) (x : α) (hx : x ∈ l) : lt x (el l 0) = false := by
  obtain ⟨k, hk, rfl⟩ := List.getElem_of_mem hx
  have := h.least O k hk
  rw [show el l k = l[k] from by have := el_eq l k hk; rw [List.getElem?_eq_getElem hk] at this; simpa using this.symm] at this
  exact this

omit [Inhabited α] in
theorem Ord.irrefl {lt : α → α → Bool} (O : Ord lt) (a : α) : lt a a = false := by
  cases hx : lt a a with
  | false => rfl
  | true => rw [← hx]; exact O.asymm _ _ hx

theorem el_append_right (l : List α) (x : α) : el (l ++ [x]) l.length = x := by
  unfold el
  simp

theorem upInv_push {lt : α → α → Bool} {l : List α} (x : α) (h : IsHeap lt l) : UpInv lt (l ++ [x]) (l.length + 1) l.length := by
  refine ⟨fun k k0 kn ke => ?_, fun k k0 kn kp _ => by omega⟩
  have hk : k < l.length := by omega
  have := h k k0 hk (Nat.zero_le _)
  unfold okAt at this ⊢
  rw [el_append_left _ _ _ hk, el_append_left _ _ _ (by omega)]
  exact this

theorem downInv_pop {lt : α → α → Bool} {l : List α} {n i : Nat} (hl : l.length = n + 1) (hi : i < n) (O : Ord lt) (h : IsHeap lt l) : DownInv lt 0 i (swp l i n) n i := by
  refine ⟨fun k k0 kn _ kp kor => ?_, fun k k0 kn kp i0 _ => ?_⟩
  · have h1 := h k k0 (by omega) (Nat.zero_le _)
    unfold okAt at h1 ⊢
    rw [el_swp _ _ _ _ (by omega) (by omega), el_swp _ _ _ _ (by omega) (by omega), if_neg (by omega), if_neg (by omega), if_neg (by omega), if_neg kp]
    exact h1
  · rw [el_swp _ _ _ _ (by omega) (by omega), el_swp _ _ _ _ (by omega) (by omega), if_neg (by omega), if_neg (by omega), if_neg (by omega), if_neg (by omega)]
    have h1 := h k k0 (by omega) (Nat.zero_le _)
    have h2 := h i i0 (by omega) (Nat.zero_le _)
    unfold okAt at h1 h2
    rw [kp] at h1
    exact O.trans _ _ _ h2 h1

theorem upInv_remove {lt : α → α → Bool} {l : List α} {n i : Nat} (hl : l.length = n + 1) (hi : i < n) (O : Ord lt) (h : IsHeap lt l)
    (hok : ∀ k, 0 < k → k < n → 0 ≤ (k - 1) / 2 → k ≠ i → okAt lt (swp l i n) k) : UpInv lt (swp l i n) n i :=
  ⟨fun k k0 kn ke => hok k k0 kn (Nat.zero_le _) ke, fun k k0 kn kp i0 => (downInv_pop hl hi O h).2 k k0 kn kp i0 (Nat.zero_le _)⟩

theorem split_last {l : List α} {n : Nat} (hl : l.length = n + 1) : l = l.take n ++ [el l n] := by
  refine ext_el (by simp; omega) fun k hk => ?_
  by_cases hkn : k < n
  · rw [el_append_left _ _ _ (by simp; omega)]
    unfold el
    rw [List.getD_eq_getElem?_getD, List.getD_eq_getElem?_getD, List.getElem?_take, if_pos hkn]
  · have : k = n := by omega
    subst this
    have := el_append_right (l.take k) (el l k)
    rw [List.length_take, show min k l.length = k by omega] at this
    exact this.symm

theorem el_take {l : List α} {n k : Nat} (hk : k < n) : el (l.take n) k = el l k := by
  unfold el
  rw [List.getD_eq_getElem?_getD, List.getD_eq_getElem?_getD, List.getElem?_take, if_pos hk]

theorem isHeap_take {lt : α → α → Bool} {l : List α} {n : Nat} (hn : n ≤ l.length) (h : HeapTo lt 0 l n) : IsHeap lt (l.take n) := by
  intro k k0 kn _
  rw [List.length_take, show min n l.length = n by omega] at kn
  have := h k k0 kn (Nat.zero_le _)
  unfold okAt at this ⊢
  rw [el_take kn, el_take (by omega)]
  exact this

theorem downInv_init {lt : α → α → Bool} {l : List α} {n i : Nat} (h : HeapTo lt (i + 1) l n) : DownInv lt i i l n i :=
  ⟨fun k k0 kn kl ki _ => h k k0 kn (by omega), fun k _ _ _ _ _ => by omega⟩

theorem heapTo_of_post {lt : α → α → Bool} {l : List α} {n i : Nat} (h : ∀ k, 0 < k → k < n → i ≤ (k - 1) / 2 → k ≠ i → okAt lt l k) : HeapTo lt i l n :=
  fun k k0 kn kl => h k k0 kn kl (by omega)

theorem heapTo_half {lt : α → α → Bool} (l : List α) (n : Nat) : HeapTo lt (n / 2) l n := fun k _ _ _ => by omega

theorem isHeap_nil {lt : α → α → Bool} : IsHeap lt ([] : List α) := fun k _ hk => by simp at hk

end Go.Proofs.YtaodldagmmephaaGreat.HL

/- Slices of ints: how they read, rows of them. -/
namespace Go.Proofs.YtaodldagmmephaaGreat
open Go.RowKit

theorem info_int : (Tryz.prog.info? 3).map (fun i => (i.zero, i.size, i.bytes)) = some (some (.int .i64 0), 1, 8) := by kernel_rfl

def ncells (x : Int) : List Value := [.int .i64 x]
theorem ncells_length (x : Int) : (ncells x).length = 1 := rfl

/-- The slice p of n elements reads as the numbers zs; its memory lies below block B. -/
def RdI (w : World) (B : Nat) (p : Option Addr) (n : Nat) (zs : List Int) : Prop :=
  zs.length = n ∧ (0 < n → ∃ b o, p = some ⟨b, o, none⟩ ∧ b < B ∧ ∀ k, k < n → w.cell? ⟨b, o + k, none⟩ = some (.int .i64 (HL.el zs k)))

theorem RdI.keep {w w' : World} {B : Nat} {p : Option Addr} {n : Nat} {zs : List Int} (h : RdI w B p n zs) {S : Nat → Prop} (hf : Fr S w w') (hB : B ≤ w.heap.size) (hS : ∀ i, i < B → ¬ S i) : RdI w' B p n zs :=
  ⟨h.1, fun hn => by
    obtain ⟨b, o, e, hb, hc⟩ := h.2 hn
    exact ⟨b, o, e, hb, fun k hk => (hf.cell (p := ⟨b, o + k, none⟩) (by show b < _; omega) (hS b hb)).trans (hc k hk)⟩⟩

theorem RdI.below {w w' : World} {B : Nat} {p : Option Addr} {n : Nat} {zs : List Int} (h : RdI w B p n zs) (hf : Below B w w') : RdI w' B p n zs :=
  ⟨h.1, fun hn => by
    obtain ⟨b, o, e, hb, hc⟩ := h.2 hn
    exact ⟨b, o, e, hb, fun k hk => (hf.cell (p := ⟨b, o + k, none⟩) hb).trans (hc k hk)⟩⟩

theorem RdI.more {w : World} {B B' : Nat} {p : Option Addr} {n : Nat} {zs : List Int} (h : RdI w B p n zs) (hB : B ≤ B') : RdI w B' p n zs :=
  ⟨h.1, fun hn => by
    obtain ⟨b, o, e, hb, hc⟩ := h.2 hn
    exact ⟨b, o, e, by omega, hc⟩⟩

/-- What the row's frame tells of a slice of integers that came in. -/
theorem rd_of_row {w : World} {a : Option Addr} {len cap : Nat} {zs : List Int}
    (h : (a = none ∧ len = 0 ∧ cap = 0 ∧ zs = []) ∨ ∃ x, a = some x ∧ len ≤ cap ∧ cap ≤ maxLen ∧ zs.length = cap ∧ (∀ i, i < zs.length → w.cell? (x.add i) = some (.int .i64 (zs.getD i 0))) ∧ ∀ n ∈ zs, (Lit.int .i64 n).wf = true) : RdI w w.heap.size a len (zs.take len) := by
  rcases h with ⟨rfl, rfl, rfl, rfl⟩ | ⟨⟨b, o, sp⟩, rfl, hl, hm, hz, hc, _⟩
  · exact ⟨rfl, fun h => by omega⟩
  · refine ⟨by rw [List.length_take]; omega, fun hn => ?_⟩
    have h0 := hc 0 (by omega)
    have hsp : sp = none := by simpa [Addr.add] using World.cell?_spot h0
    subst hsp
    refine ⟨b, o, rfl, by simpa [Addr.add] using cell_lt h0, fun k hk => ?_⟩
    have h1 := hc k (by omega)
    have e : ((⟨b, o, none⟩ : Addr).add k) = ⟨b, o + k, none⟩ := by
      unfold Addr.add
      split
      · rename_i h; rw [h, Nat.add_zero]
      · rfl
    rw [e] at h1
    rw [h1]
    unfold HL.el
    rw [List.getD_eq_getElem?_getD, List.getD_eq_getElem?_getD, List.getElem?_take, if_pos hk]
    rfl

/-- A row that is owned reads. -/
theorem RdI.of_own {w : World} {base n c : Nat} {p : Option Addr} {zs : List Int} (h : w.ownsRow base 3 1 (.slice p n c) n (rowOf ncells zs)) (hz : zs.length = n) : RdI w w.heap.size p n zs := by
  refine ⟨hz, fun hn => ?_⟩
  obtain ⟨g, cap, hv, _, hg, _⟩ := owns_len h hn
  injection hv with h1 _ h3
  subst h1 h3
  refine ⟨g, 0, rfl, hg, fun k hk => ?_⟩
  rw [Nat.zero_add, h.cellAt k (by omega)]
  have r0 := rowOf_at ncells ncells_length zs k 0 (by omega) (by omega)
  rw [Nat.mul_one, Nat.add_zero] at r0
  exact r0

theorem add_at (b o j : Nat) : (⟨b, o, none⟩ : Addr).add j = ⟨b, o + j, none⟩ := by
  unfold Addr.add
  split
  · rename_i h; rw [h, Nat.add_zero]
  · rfl

theorem rowOf_ncells_get {zs : List Int} {j : Nat} {u : Value} (h : (rowOf ncells zs)[j]? = some u) : j < zs.length ∧ u = .int .i64 (HL.el zs j) := by
  have hl := rowOf_length ncells ncells_length zs
  have hj : j < zs.length := by
    have := (List.getElem?_eq_some_iff.1 h).1
    omega
  have r0 := rowOf_at ncells ncells_length zs j 0 hj (by omega)
  rw [Nat.mul_one, Nat.add_zero, h] at r0
  refine ⟨hj, ?_⟩
  have : (ncells (zs.getD j default))[0]? = some (.int .i64 (HL.el zs j)) := rfl
  rw [this] at r0
  injection r0

theorem rowOf_ncells_one {zs : List Int} : ∀ u ∈ rowOf ncells zs, u.oneCell' = true := by
  intro u hu
  obtain ⟨j, hj, e⟩ := List.getElem_of_mem hu
  have := rowOf_ncells_get (zs := zs) (j := j) (u := u) (by rw [List.getElem?_eq_getElem hj, e])
  rw [this.2]
  rfl

theorem rd_new (w : World) (zs : List Int) (t : TypeId) : RdI (w.alloc (.cells (rowOf ncells zs).toArray t)) (w.alloc (.cells (rowOf ncells zs).toArray t)).heap.size (some ⟨w.heap.size, 0, none⟩) zs.length zs := by
  refine ⟨rfl, fun _ => ⟨w.heap.size, 0, rfl, by simp, fun k hk => ?_⟩⟩
  have := new_cells w (rowOf ncells zs) t k (.int .i64 (HL.el zs k))
  rw [add_at] at this
  refine this ?_
  have r0 := rowOf_at ncells ncells_length zs k 0 hk (by omega)
  rw [Nat.mul_one, Nat.add_zero] at r0
  exact r0

/-- The slice p of n elements of 'size' cells each reads as zs; its memory lies below block B. -/
def RdG {α : Type} (f : α → List Value) (w : World) (B : Nat) (p : Option Addr) (n : Nat) (zs : List α) : Prop :=
  zs.length = n ∧ (0 < n → ∃ b o, p = some ⟨b, o, none⟩ ∧ b < B ∧ ∀ j u, (rowOf f zs)[j]? = some u → w.cell? ⟨b, o + j, none⟩ = some u)

section
variable {α : Type} {f : α → List Value} {w w' : World} {B B' n : Nat} {p : Option Addr} {zs : List α}
theorem RdG.below (h : RdG f w B p n zs) (hf : Below B w w') : RdG f w' B p n zs :=
  ⟨h.1, fun hn => by
    obtain ⟨b, o, e, hb, hc⟩ := h.2 hn
    exact ⟨b, o, e, hb, fun j u hu => (hf.cell (p := ⟨b, o + j, none⟩) hb).trans (hc j u hu)⟩⟩
theorem RdG.more (h : RdG f w B p n zs) (hB : B ≤ B') : RdG f w B' p n zs :=
  ⟨h.1, fun hn => by
    obtain ⟨b, o, e, hb, hc⟩ := h.2 hn
    exact ⟨b, o, e, by omega, hc⟩⟩
theorem RdG.nil : RdG f w B p 0 ([] : List α) := ⟨rfl, fun h => by omega⟩
theorem RdG.fresh (w : World) (zs : List α) (t : TypeId) : RdG f (w.alloc (.cells (rowOf f zs).toArray t)) (w.heap.size + 1) (some ⟨w.heap.size, 0, none⟩) zs.length zs :=
  ⟨rfl, fun _ => ⟨w.heap.size, 0, rfl, by omega, fun j u hu => by
    have := new_cells w (rowOf f zs) t j u hu
    rw [add_at] at this
    exact this⟩⟩
theorem RdG.of_own {base c : Nat} {e : TypeId} {size : Nat} (h : w.ownsRow base e size (.slice p n c) n (rowOf f zs)) (hz : zs.length = n) : RdG f w w.heap.size p n zs := by
  refine ⟨hz, fun hn => ?_⟩
  obtain ⟨g, cap, hv, _, hg, _⟩ := owns_len h hn
  injection hv with h1 _ h3
  subst h1 h3
  refine ⟨g, 0, rfl, hg, fun j u hu => ?_⟩
  have := h.cells (g := g) rfl j u hu
  rw [add_at] at this
  exact this
end

end Go.Proofs.YtaodldagmmephaaGreat

/- append(row, xs...) of things of several cells: the row is the call's own, xs any slice that reads. No program in sight. -/
namespace Go.Proofs.YtaodldagmmephaaGreat
open Go.RowKit

/-- A type of slices, of its elements, how an element lies. -/
structure RowT {α : Type} (P : Program) (ts te : TypeId) (f : α → List Value) (size bytes : Nat) : Prop where
  un : P.underlying ts = some (.slice te)
  info : ∃ i z, P.info? te = some i ∧ i.zero = some z ∧ i.size = size ∧ i.bytes = bytes ∧ z.cells.size = size
  pos : 0 < size
  len : ∀ x, (f x).length = size
  one : ∀ x, ∀ u ∈ f x, u.oneCell' = true
  byt : bytes ≤ 1000000

section
variable {α : Type} {P : Program} {ts te : TypeId} {f : α → List Value} {size bytes : Nat}

theorem RowT.of (un : P.underlying ts = some (.slice te)) {z : Value} (hi : (P.info? te).map (fun i => (i.zero, i.size, i.bytes)) = some (some z, size, bytes)) (hz : z.cells.size = size) (pos : 0 < size) (len : ∀ x, (f x).length = size) (one : ∀ x, ∀ u ∈ f x, u.oneCell' = true) (byt : bytes ≤ 1000000) : RowT P ts te f size bytes :=
  ⟨un, by obtain ⟨i, h1, h2, h3, h4⟩ := info_parts hi; exact ⟨i, z, h1, h2, h3, h4, hz⟩, pos, len, one, byt⟩

theorem rowOf_mem {zs : List α} {u : Value} (h : u ∈ rowOf f zs) : ∃ x, x ∈ zs ∧ u ∈ f x := by
  unfold rowOf at h
  obtain ⟨x, h1, h2⟩ := List.mem_flatMap.1 h
  exact ⟨x, h1, h2⟩

/-- How append runs; where the new row lies. -/
theorem RowT.run (T : RowT P ts te f size bytes) {w : World} (ty : TypeId) (base : Nat) (v : Value) (n : Nat) (xs : List Value) (hown : w.ownsRow base te size v n xs) {p : Option Addr} {m c B : Nat} {zs : List α} (hR : RdG f w B p m zs) (hp0 : p = none → c = 0) (hsm : n + m ≤ 1000000) (hbase : base ≤ w.heap.size) :
    ∃ v' w', (Builtin.append_ #[ts, ts] ty #[v, .slice p m c]).run P w = .ok v' w' ∧ w'.ownsRow base te size v' (n + m) (xs ++ rowOf f zs) ∧ w.grownBy w' v.ownBlock ∧ (v'.ownBlock = v.ownBlock ∨ v'.ownBlock = some w.heap.size) := by
  obtain ⟨i0, z0, hi0, hz0, hz1, hz2, hz3⟩ := T.info
  have hz := hR.1
  have hlen : (rowOf f zs).length = m * size := by rw [rowOf_length f T.len, hz]
  cases p with
  | none =>
    have h0 : m = 0 := by
      rcases Nat.eq_zero_or_pos m with h0 | h0
      · exact h0
      · obtain ⟨b, o, e, _⟩ := hR.2 h0; cases e
    have hc := hp0 rfl
    subst h0 hc
    have : zs = [] := List.eq_nil_of_length_eq_zero hz
    subst this
    exact ⟨v, w, run_append_owned_none (P := P) (w := w) base ts ty te i0 size T.un hi0 v n xs hown, by simpa [rowOf] using hown, ⟨rfl, rfl, rfl, Nat.le_refl _, fun _ _ _ => rfl⟩, .inl rfl⟩
  | some ad =>
    have hb : (n + m) * bytes ≤ 140737488355328 := Nat.le_trans (Nat.mul_le_mul hsm T.byt) (by decide)
    have hm1 : ∀ j u, (rowOf f zs)[j]? = some u → 0 < m := fun j u hu => by
      have := (List.getElem?_eq_some_iff.1 hu).1
      rw [hlen] at this
      rcases Nat.eq_zero_or_pos m with h | h
      · rw [h] at this; omega
      · exact h
    obtain ⟨v', w', hr, h2, h3, _, h5⟩ := run_append_own_at (P := P) w base ts ty te i0 z0 size bytes T.un hi0 hz0 hz1 hz2 hz3 T.pos v n xs hown ad m c (rowOf f zs) hlen (by
      intro j u hu
      obtain ⟨b, o, e, hlt, hc⟩ := hR.2 (hm1 j u hu)
      injection e with e
      subst e
      rw [add_at]
      exact hc j u hu) (fun u hu => by
        obtain ⟨x, _, hx⟩ := rowOf_mem hu
        exact T.one x u hx) (by unfold maxLen; omega) hb hbase
    exact ⟨v', w', hr, h2, h3, h5⟩

/-- append at a step. -/
theorem RowT.app (T : RowT P ts te f size bytes) {ops : Array Oper} {rest : List Oper} {o : Oper} {a : Act} {Q : Exit → Act → World → Prop} {w : World} (hgd : o.guard = none) (s x : Operand)
    (ho : o.op = .call { callee := .builtin .append, args := #[s, x], argTypes := #[ts, ts] }) (base : Nat) (v : Value) (n : Nat) (xs : List Value) (hs : a.eval s = v) (hown : w.ownsRow base te size v n xs)
    {p : Option Addr} {m c B : Nat} {zs : List α} (hx : a.eval x = .slice p m c) (hR : RdG f w B p m zs) (hp0 : p = none → c = 0) (hsm : n + m ≤ 1000000) (hbase : base ≤ w.heap.size)
    (h : ∀ v' w', w'.ownsRow base te size v' (n + m) (xs ++ rowOf f zs) → w.grownBy w' v.ownBlock → (v'.ownBlock = v.ownBlock ∨ v'.ownBlock = some w.heap.size) → wpList P ops Q rest (a.put o.dst v') w') : wpList P ops Q (o :: rest) a w := by
  obtain ⟨v', w', hr, h2, h3, h4⟩ := T.run o.type base v n xs hown hR hp0 hsm hbase
  refine wpList_plain hgd fun _ hK => ?_
  unfold Oper.wp execOp
  simp only [ho, resolve, invoke, builtin, Sem.run_bind, Sem.run_pure, Result.andThen_ok, List.map_toArray, List.map_cons, List.map_nil, hs, hx, hr]
  exact hK _ _ (h v' w' h2 h3 h4)

/-- append at a step of a region that draws its order. -/
theorem RowT.step (T : RowT P ts te f size bytes) {ops : Array Oper} {o : Oper} {a : Act} {K : Act → World → Prop} {Q : Exit → Act → World → Prop} {E : Prop} {w : World} (hgd : o.guard = none) (s x : Operand)
    (ho : o.op = .call { callee := .builtin .append, args := #[s, x], argTypes := #[ts, ts] }) (base : Nat) (v : Value) (n : Nat) (xs : List Value) (hs : a.eval s = v) (hown : w.ownsRow base te size v n xs)
    {p : Option Addr} {m c B : Nat} {zs : List α} (hx : a.eval x = .slice p m c) (hR : RdG f w B p m zs) (hp0 : p = none → c = 0) (hsm : n + m ≤ 1000000) (hbase : base ≤ w.heap.size)
    (h : ∀ v' w', w'.ownsRow base te size v' (n + m) (xs ++ rowOf f zs) → w.grownBy w' v.ownBlock → (v'.ownBlock = v.ownBlock ∨ v'.ownBlock = some w.heap.size) → K (a.put o.dst v') w') : if Region.wanted o (yielded ops a.tmps) = true then Oper.wp P o a w K Q else E := by
  obtain ⟨v', w', hr, h2, h3, h4⟩ := T.run o.type base v n xs hown hR hp0 hsm hbase
  have hw : Region.wanted o (yielded ops a.tmps) = true := by simp [Region.wanted, hgd]
  rw [if_pos hw]
  unfold Oper.wp execOp
  simp only [ho, resolve, invoke, builtin, Sem.run_bind, Sem.run_pure, Result.andThen_ok, List.map_toArray, List.map_cons, List.map_nil, hs, hx, hr]
  exact h v' w' h2 h3 h4
end

/-! ### Parts of a slice that reads -/
section
variable {α : Type} {f : α → List Value} {size : Nat}

theorem rowOf_take (hf : ∀ x, (f x).length = size) : ∀ (zs : List α) (k : Nat), rowOf f (zs.take k) = (rowOf f zs).take (k * size)
  | zs, 0 => by simp [rowOf]
  | [], k + 1 => by simp [rowOf]
  | x :: zs, k + 1 => by
    have e : rowOf f (x :: zs) = f x ++ rowOf f zs := by simp [rowOf]
    have e2 : rowOf f (x :: zs.take k) = f x ++ rowOf f (zs.take k) := by simp [rowOf]
    rw [List.take_succ_cons, e, e2, rowOf_take hf zs k, List.take_append, hf, List.take_of_length_le (l := f x) (by rw [hf, Nat.succ_mul]; omega)]
    congr 2
    rw [Nat.succ_mul]; omega
theorem rowOf_drop (hf : ∀ x, (f x).length = size) : ∀ (zs : List α) (k : Nat), rowOf f (zs.drop k) = (rowOf f zs).drop (k * size)
  | zs, 0 => by simp [rowOf]
  | [], k + 1 => by simp [rowOf]
  | x :: zs, k + 1 => by
    have e : rowOf f (x :: zs) = f x ++ rowOf f zs := by simp [rowOf]
    have e3 : (f x).drop ((k + 1) * size) = [] := List.drop_eq_nil_of_le (by rw [hf, Nat.succ_mul]; omega)
    rw [List.drop_succ_cons, e, rowOf_drop hf zs k, List.drop_append, hf, e3, List.nil_append]
    congr 1
    rw [Nat.succ_mul]; omega

theorem RdG.takes {w : World} {B n k : Nat} {p : Option Addr} {zs : List α} (hf : ∀ x, (f x).length = size) (h : RdG f w B p n zs) (hk : k ≤ n) : RdG f w B p k (zs.take k) := by
  refine ⟨by rw [List.length_take, h.1]; omega, fun hk0 => ?_⟩
  obtain ⟨b, o, e, hb, hc⟩ := h.2 (by omega)
  refine ⟨b, o, e, hb, fun j u hu => hc j u ?_⟩
  rw [rowOf_take hf, List.getElem?_take] at hu
  split at hu
  · exact hu
  · cases hu
theorem RdG.drops {w : World} {B n k b o : Nat} {zs : List α} (hf : ∀ x, (f x).length = size) (h : RdG f w B (some ⟨b, o, none⟩) n zs) (hk : k ≤ n) : RdG f w B (some ⟨b, o + k * size, none⟩) (n - k) (zs.drop k) := by
  refine ⟨by rw [List.length_drop, h.1], fun hk0 => ?_⟩
  obtain ⟨b', o', e, hb, hc⟩ := h.2 (by omega)
  injection e with e
  injection e with e1 e2 _
  subst e1 e2
  refine ⟨b, o + k * size, rfl, hb, fun j u hu => ?_⟩
  rw [rowOf_drop hf, List.getElem?_drop] at hu
  rw [Nat.add_assoc]
  exact hc _ u hu
end
end Go.Proofs.YtaodldagmmephaaGreat

/- A region that draws its order, whose last operation waits for all others: a condition on the world that holds till then serves to take loads first. No program in sight. -/
namespace Go.Proofs.YtaodldagmmephaaGreat
open Go.RowKit

section
variable {P : Program} {ops : Array Oper} {Q : Exit → Act → World → Prop} {md : Region.Mode} {S : World → Prop}

/-- Whatever order is picked; S holds behind every operation but number n. -/
def WpSink (P : Program) (md : Region.Mode) (ops : Array Oper) (Q : Exit → Act → World → Prop) (S : World → Prop) (n : Nat) : Nat → Array Bool → Act → World → Prop
  | 0, listed, a, w => Region.ready md ops listed = [] ∧ Q .normal a w
  | fuel + 1, listed, a, w =>
    (Region.ready md ops listed = [] → Q .normal a w) ∧
    ∀ i ∈ Region.ready md ops listed, wpOp P ops Q i (fun a' w' => (i ≠ n → S w') ∧ WpSink P md ops Q S n fuel (listed.setIfInBounds i true) a' w') a w

theorem any_of_sink {n : Nat} : ∀ (fuel : Nat) (listed : Array Bool) (a : Act) (w : World), WpSink P md ops Q S n fuel listed a w → wpAny P md ops Q fuel listed a w
  | 0, _, _, _, h => h
  | fuel + 1, _, _, _, h => ⟨h.1, fun i hi => wpOp_mono (fun _ _ h' => any_of_sink fuel _ _ _ h'.2) (h.2 i hi)⟩

theorem sink_first {n i : Nat} {oi : Oper} {v : Value} (hs : Region.sinkB md ops n = true) (hc : Region.chainB md ops n = true) (hn : n < ops.size) (hin : i < n) (hi : ops[i]? = some oi)
    (hsel : ∀ (j : Nat) (o : Oper) cs b, ops[j]? = some o → o.op ≠ .select cs b) (hQ : ∀ c a w, Q (.panic c) (a.put oi.dst v) w → Q (.panic c) a w) :
    ∀ (fuel : Nat) (listed : Array Bool) (a : Act) (w : World), HeadInv md ops n listed →
      (∀ j oj, ops[j]? = some oj → j ≠ i → listed.getD j true = false → (∀ e ∈ oj.after, Region.binds md e = true → e.on ≠ i) → oi.apart ops oj = true) →
      i ∈ Region.ready md ops listed → YieldsIf P ops S oi v a → S w →
      WpSink P md ops Q S n fuel (listed.setIfInBounds i true) (a.put oi.dst v) w → WpSink P md ops Q S n (fuel + 1) listed a w := by
  intro fuel
  induction fuel with
  | zero =>
    intro listed a w inv hfree hr hy hS H
    refine ⟨fun h => (by rw [h] at hr; cases hr), fun j hj => ?_⟩
    by_cases hji : j = i
    · subst hji; exact hy.wpOp hi hS ⟨fun _ => hS, H⟩
    · have h1 := ready_mono hj hji
      rw [H.1] at h1
      cases h1
  | succ fuel ih =>
    intro listed a w inv hfree hr hy hS H
    have hun := (mem_ready.1 hr).1
    refine ⟨fun h => (by rw [h] at hr; cases hr), fun j hj => ?_⟩
    by_cases hji : j = i
    · subst hji; exact hy.wpOp hi hS ⟨fun _ => hS, H⟩
    · have hjn : j < n := by
        rcases Nat.lt_or_ge j n with h | h
        · exact h
        · exact absurd hj (tail_waits hs hc hn inv _ i rfl hin hun j h)
      have h1 := H.2 j (ready_mono hj hji)
      obtain ⟨hjun, oj, hoj, hw⟩ := mem_ready.1 hj
      have hnot : ∀ e ∈ oj.after, Region.binds md e = true → e.on ≠ i := fun e he hb heq => by
        have h3 := hw e he hb
        rw [heq, getD_both hun] at h3
        cases h3
      have h2 := wpOp_putIf hoj (hfree j oj hoj hji hjun hnot) (fun cs b => hsel i oi cs b hi) (fun cs b => hsel j oj cs b hoj) hQ hy h1
      have hfree' : ∀ k ok, ops[k]? = some ok → k ≠ i → (listed.setIfInBounds j true).getD k true = false →
          (∀ e ∈ ok.after, Region.binds md e = true → e.on ≠ i) → oi.apart ops ok = true := fun k ok hk hki hkun hno => by
        refine hfree k ok hk hki ?_ hno
        by_cases hjk : j = k
        · subst hjk; exact hjun
        · rw [getD_set_ne true hjk] at hkun; exact hkun
      refine wpOp_mono (fun a' w' h3 => ⟨fun _ => h3.2.1 (by omega), ih (listed.setIfInBounds j true) a' w' (inv.set hj hjn) hfree' (ready_mono hr (Ne.symm hji)) h3.1 (h3.2.1 (by omega)) ?_⟩) h2
      rw [Array.setIfInBounds_comm _ _ hji]
      exact h3.2.2

/-- Number i is taken first. -/
theorem sink_take {n i : Nat} {oi : Oper} {v : Value} {fuel : Nat} {listed : Array Bool} {a : Act} {w : World} (hB : (Region.sinkB md ops n && Region.chainB md ops n && decide (n < ops.size) && Region.noSelect ops) = true) (inv : HeadInv md ops n listed) (hi : ops[i]? = some oi)
    (hf : (decide (i < n) && Region.free md ops listed i && (Region.ready md ops listed).contains i) = true)
    (hQ : ∀ c a w, Q (.panic c) (a.put oi.dst v) w → Q (.panic c) a w) (hy : YieldsIf P ops S oi v a) (hS : S w)
    (h : HeadInv md ops n (listed.setIfInBounds i true) → WpSink P md ops Q S n fuel (listed.setIfInBounds i true) (a.put oi.dst v) w) : WpSink P md ops Q S n (fuel + 1) listed a w := by
  simp only [Bool.and_eq_true, decide_eq_true_eq] at hB hf
  obtain ⟨⟨⟨h1, h2⟩, h3⟩, h5⟩ := hB
  obtain ⟨⟨h6, h7⟩, h8⟩ := hf
  have hr : i ∈ Region.ready md ops listed := by simpa using h8
  exact sink_first h1 h2 h3 h6 hi (Region.noSelect_spec h5) hQ fuel listed a w inv (Region.free_spec hi h7) hr hy hS (h (inv.set hr h6))

/-- One operation alone may come up. -/
theorem sink_one {n i : Nat} {o : Oper} {fuel : Nat} {listed : Array Bool} {a : Act} {w : World} (hr : Region.ready md ops listed = [i]) (hi : ops[i]? = some o) (hin : i < n) (inv : HeadInv md ops n listed)
    (h : ∀ K : Act → World → Prop, (∀ a' w', S w' → (S w' → HeadInv md ops n (listed.setIfInBounds i true) → WpSink P md ops Q S n fuel (listed.setIfInBounds i true) a' w') → K a' w') →
      if Region.wanted o (yielded ops a.tmps) = true then Oper.wp P o a w K Q else K (a.put o.dst undef) w) : WpSink P md ops Q S n (fuel + 1) listed a w := by
  refine ⟨fun h0 => (by rw [h0] at hr; cases hr), fun j hj => ?_⟩
  have hji : j = i := by rw [hr] at hj; simpa using hj
  subst hji
  have h9 := h (fun a' w' => (j ≠ n → S w') ∧ WpSink P md ops Q S n fuel (listed.setIfInBounds j true) a' w') (fun a' w' hS hK => ⟨fun _ => hS, hK hS (inv.set hj hin)⟩)
  unfold wpOp
  simp only [hi]
  split
  · rename_i hw
    rw [if_pos hw] at h9
    exact .inl h9
  · rename_i hw
    rw [if_neg hw] at h9
    exact h9

/-- Two operations may come up. -/
theorem sink_two {n i j : Nat} {o o2 : Oper} {fuel : Nat} {listed : Array Bool} {a : Act} {w : World} (hr : Region.ready md ops listed = [i, j]) (hi : ops[i]? = some o) (hj : ops[j]? = some o2) (hin : i < n) (hjn : j < n) (inv : HeadInv md ops n listed)
    (h : ∀ K : Act → World → Prop, (∀ a' w', S w' → (S w' → HeadInv md ops n (listed.setIfInBounds i true) → WpSink P md ops Q S n fuel (listed.setIfInBounds i true) a' w') → K a' w') →
      if Region.wanted o (yielded ops a.tmps) = true then Oper.wp P o a w K Q else K (a.put o.dst undef) w)
    (h2 : ∀ K : Act → World → Prop, (∀ a' w', S w' → (S w' → HeadInv md ops n (listed.setIfInBounds j true) → WpSink P md ops Q S n fuel (listed.setIfInBounds j true) a' w') → K a' w') →
      if Region.wanted o2 (yielded ops a.tmps) = true then Oper.wp P o2 a w K Q else K (a.put o2.dst undef) w) : WpSink P md ops Q S n (fuel + 1) listed a w := by
  refine ⟨fun h0 => (by rw [h0] at hr; cases hr), fun k hk => ?_⟩
  rw [hr] at hk
  rcases List.mem_cons.1 hk with rfl | hk
  · have h9 := h (fun a' w' => (k ≠ n → S w') ∧ WpSink P md ops Q S n fuel (listed.setIfInBounds k true) a' w') (fun a' w' hS hK => ⟨fun _ => hS, hK hS (inv.set (by rw [hr]; exact List.mem_cons_self) hin)⟩)
    unfold wpOp
    simp only [hi]
    split
    · rename_i hw
      rw [if_pos hw] at h9
      exact .inl h9
    · rename_i hw
      rw [if_neg hw] at h9
      exact h9
  · obtain rfl : k = j := by simpa using hk
    have h9 := h2 (fun a' w' => (k ≠ n → S w') ∧ WpSink P md ops Q S n fuel (listed.setIfInBounds k true) a' w') (fun a' w' hS hK => ⟨fun _ => hS, hK hS (inv.set (by rw [hr]; exact List.mem_cons_of_mem _ hk) hjn)⟩)
    unfold wpOp
    simp only [hj]
    split
    · rename_i hw
      rw [if_pos hw] at h9
      exact .inl h9
    · rename_i hw
      rw [if_neg hw] at h9
      exact h9

/-- The last one. -/
theorem sink_last {n : Nat} {o : Oper} {fuel : Nat} {listed : Array Bool} {a : Act} {w : World} (hr : Region.ready md ops listed = [n]) (hi : ops[n]? = some o) (hr2 : Region.ready md ops (listed.setIfInBounds n true) = [])
    (h : ∀ K : Act → World → Prop, (∀ a' w', Q .normal a' w' → K a' w') →
      if Region.wanted o (yielded ops a.tmps) = true then Oper.wp P o a w K Q else K (a.put o.dst undef) w) : WpSink P md ops Q S n (fuel + 1) listed a w := by
  refine ⟨fun h0 => (by rw [h0] at hr; cases hr), fun j hj => ?_⟩
  have hji : j = n := by rw [hr] at hj; simpa using hj
  subst hji
  have h9 := h (fun a' w' => (j ≠ j → S w') ∧ WpSink P md ops Q S j fuel (listed.setIfInBounds j true) a' w') (fun a' w' hq => ⟨fun h => absurd rfl h, by
    cases fuel with
    | zero => exact ⟨hr2, hq⟩
    | succ f => exact ⟨fun _ => hq, fun k hk => by rw [hr2] at hk; cases hk⟩⟩)
  unfold wpOp
  simp only [hi]
  split
  · rename_i hw
    rw [if_pos hw] at h9
    exact .inl h9
  · rename_i hw
    rw [if_neg hw] at h9
    exact h9

theorem region_sink {id n : Nat} {a : Act} {w : World} (S : World → Prop) (hm : P.follows .mixedOrders = true) (hsz : ops.size = n + 1) (hS : S w.drew)
    (h : HeadInv .any ops n (Array.replicate ops.size false) → S w.drew → WpSink P .any ops Q S n (n + 1) (Array.replicate (n + 1) false) a w.drew) : (Code.region id ops true).wp P Q a w := by
  refine wp_region_any hm (any_of_sink (S := S) (n := n) _ _ _ _ ?_)
  have inv : HeadInv .any ops n (Array.replicate ops.size false) := ⟨by simp, fun j oj _ hl => (by rw [getD_replicate_false] at hl; cases hl), fun t _ ht => (by simp [ht])⟩
  have h9 := h inv hS
  rw [hsz]
  exact h9
end
end Go.Proofs.YtaodldagmmephaaGreat

/- A region that draws its order, whose last operation waits for all others: those that only read are taken first, all at one stroke; the loud ones come behind them. No program in sight. -/
namespace Go.Proofs.YtaodldagmmephaaGreat
open Go.RowKit

namespace Mix
/-- Operations that leave the world as it is and call nothing. -/
def pureB (o : Oper) : Bool := match o.op with
  | .move _ => true
  | .assign _ => true
  | .load _ _ => true
  | .build _ _ => true
  | .binOp _ _ _ _ _ => true
  | .unOp _ _ _ => true
  | .slice _ _ _ _ _ => true
  | .fieldAddr _ _ _ => true
  | .field _ _ _ => true
  | .indexAddr _ _ _ => true
  | .extract _ _ => true
  | .pick _ _ _ => true
  | .nilCheck _ => true
  | .call c => match c.callee with
    | .builtin .len => true
    | _ => false
  | _ => false

theorem of_v {P : Program} {w w' : World} {n : Next} {s : Sem Value} (e : (do pure (Next.value (← s)) : Sem Next).run P w = .ok n w') : ∃ u, n = .value u := by
  simp only [Sem.run_bind, Sem.run_pure] at e
  cases h : s.run P w with
  | ok x w2 =>
    rw [h] at e
    simp only [Result.andThen_ok] at e
    injection e with e1 _
    exact ⟨x, e1.symm⟩
  | halt x w2 =>
    rw [h] at e
    cases e

/-- Whatever comes of it is a value. -/
def NV (s : Sem Next) : Prop := ∀ (P : Program) (w w' : World) (n : Next), s.run P w = .ok n w' → ∃ u, n = .value u
theorem NV.pure (u : Value) : NV (pure (.value u)) := fun P w w' n e => by
  simp only [Sem.run_pure] at e
  injection e with e _
  exact ⟨_, e.symm⟩
theorem NV.bind {α : Type} {s : Sem α} {f : α → Sem Next} (h : ∀ x, NV (f x)) : NV (s >>= f) := fun P w w' n e => by
  simp only [Sem.run_bind] at e
  cases hs : s.run P w with
  | ok x w2 =>
    rw [hs] at e
    simp only [Result.andThen_ok] at e
    exact h x P w2 w' n e
  | halt x w2 =>
    rw [hs] at e
    cases e
theorem NV.v (s : Sem Value) : NV (do Pure.pure (Next.value (← s))) := NV.bind fun x => NV.pure x
theorem NV.ite {c : Prop} [Decidable c] {s t : Sem Next} (h1 : NV s) (h2 : NV t) : NV (if c then s else t) := by
  split
  · exact h1
  · exact h2
theorem NV.panic : NV (runtimePanic .nilDeref) := fun P w w' n h => by
  simp [runtimePanic, goPanic, go_sem] at h

theorem pure_nv {o : Oper} {r : Operand → Value} (h : pureB o = true) : NV (execOp r o) := by
  obtain ⟨d, op, ty, pos, af, g⟩ := o
  unfold pureB at h
  unfold execOp
  cases op
  all_goals first
    | (cases h; done)
    | exact NV.pure _
    | exact NV.v _
    | exact NV.bind fun x => NV.pure _
    | skip
  case nilCheck x =>
    dsimp only
    split
    all_goals first
      | exact NV.panic
      | exact NV.pure _
      | skip
    split
    all_goals first
      | exact NV.panic
      | exact NV.pure _
      | skip
    exact NV.bind fun x => NV.bind fun y => NV.ite (NV.bind fun _ => NV.pure _) (NV.pure _)
  case call c =>
    obtain ⟨callee, args, ats⟩ := c
    cases callee
    case builtin b =>
      cases b
      all_goals first
        | (cases h; done)
        | skip
      intro P w w' n e
      simp only [resolve, invoke, Sem.run_bind, Sem.run_pure, Result.andThen_ok] at e
      exact NV.v _ P w w' n e
    all_goals cases h

section
variable {P : Program} {ops : Array Oper} {Q : Exit → Act → World → Prop} {md : Region.Mode} {S : World → Prop}

/-- Those at ks may be taken first, one behind the other. -/
def takeOk (md : Region.Mode) (ops : Array Oper) (n : Nat) : List Nat → Array Bool → Bool
  | [], _ => true
  | k :: ks, listed => decide (k < n) && Region.free md ops listed k && (Region.ready md ops listed).contains k && (match ops[k]? with | some o => pureB o | none => false) && takeOk md ops n ks (listed.setIfInBounds k true)
def nth : List Oper → Nat → Option Oper
  | [], _ => none
  | o :: _, 0 => some o
  | _ :: l, k + 1 => nth l k
theorem nth_eq : ∀ (l : List Oper) (k : Nat), nth l k = l.toArray[k]?
  | [], _ => by simp [nth]
  | o :: l, 0 => by simp [nth]
  | o :: l, k + 1 => by rw [nth, nth_eq l k]; simp
def picks (l : List Oper) (ks : List Nat) : List Oper := ks.filterMap fun k => l.toArray[k]?
theorem picks_step {l : List Oper} {C : World → Prop} {K : Act → Prop} {a : Act} {k : Nat} {ks : List Nat} {o : Oper} (h : nth l k = some o) (hw : wpQuiet P l.toArray C K (o :: picks l ks) a) : wpQuiet P l.toArray C K (picks l (k :: ks)) a := by
  rw [nth_eq] at h
  unfold picks at hw ⊢
  rw [List.filterMap_cons, h]
  exact hw
theorem picks_nil {l : List Oper} {C : World → Prop} {K : Act → Prop} {a : Act} (h : K a) : wpQuiet P l.toArray C K (picks l []) a := h
def setAll (ks : List Nat) (listed : Array Bool) : Array Bool := ks.foldl (fun l k => l.setIfInBounds k true) listed

theorem quiet_yields {o : Oper} {a : Act} {K : Act → Prop} (hp : pureB o = true) (hw : Region.wanted o (yielded ops a.tmps) = true) (h : o.quiet P a S K) : ∃ v, YieldsIf P ops S o v a ∧ K (a.put o.dst v) := by
  obtain ⟨v, h1, h2⟩ := h
  refine ⟨v, .inl ⟨hw, fun w hw2 => ?_⟩, h2⟩
  have h3 := h1 w hw2
  unfold Oper.quietAt at h3
  cases hr : (execOp a.eval o).run P w with
  | ok n w' =>
    obtain ⟨u, rfl⟩ := pure_nv hp P w w' n hr
    rw [hr] at h3
    simp only [Oper.quietUpon] at h3
    rw [h3.1, h3.2]
  | halt x w' =>
    rw [hr] at h3
    simp only [Oper.quietUpon] at h3

theorem sink_bulk {n : Nat} (hB : (Region.sinkB md ops n && Region.chainB md ops n && decide (n < ops.size) && Region.noSelect ops) = true) (hQ : ∀ c a d v w, Q (.panic c) (Act.put a d v) w → Q (.panic c) a w) :
    ∀ (ks : List Nat) (listed : Array Bool) (a : Act) (w : World) (fuel : Nat), takeOk md ops n ks listed = true → HeadInv md ops n listed → S w →
      wpQuiet P ops S (fun a' => HeadInv md ops n (setAll ks listed) → WpSink P md ops Q S n fuel (setAll ks listed) a' w) (ks.filterMap fun k => ops[k]?) a → WpSink P md ops Q S n (ks.length + fuel) listed a w
  | [], listed, a, w, fuel, _, inv, _, h => by
    rw [List.length_nil, Nat.zero_add]
    exact h inv
  | k :: ks, listed, a, w, fuel, ht, inv, hS, h => by
    simp only [takeOk, Bool.and_eq_true] at ht
    obtain ⟨⟨⟨⟨hk, hf⟩, hr⟩, hp⟩, ht⟩ := ht
    have hkn : k < n := of_decide_eq_true hk
    have hB' := hB
    simp only [Bool.and_eq_true, decide_eq_true_eq] at hB'
    obtain ⟨⟨⟨h1, h2⟩, h3⟩, h5⟩ := hB'
    cases ho : ops[k]? with
    | none => rw [ho] at hp; cases hp
    | some o =>
      rw [ho] at hp
      have hp' : pureB o = true := hp
      simp only [List.filterMap_cons, ho] at h
      have hrk : k ∈ Region.ready md ops listed := by simpa using hr
      have e : (k :: ks).length + fuel = (ks.length + fuel) + 1 := by rw [List.length_cons]; omega
      rw [e]
      unfold wpQuiet at h
      have key : ∃ v, YieldsIf P ops S o v a ∧ wpQuiet P ops S (fun a' => HeadInv md ops n (setAll (k :: ks) listed) → WpSink P md ops Q S n fuel (setAll (k :: ks) listed) a' w) (ks.filterMap fun k => ops[k]?) (a.put o.dst v) := by
        by_cases hw : Region.wanted o (yielded ops a.tmps) = true
        · rw [if_pos hw] at h
          exact quiet_yields hp' hw h
        · rw [if_neg hw] at h
          exact ⟨undef, .inr ⟨by simpa using hw, rfl⟩, h⟩
      obtain ⟨v, hy, hK⟩ := key
      exact sink_first h1 h2 h3 hkn ho (Region.noSelect_spec h5) (fun c a w => hQ c a _ _ w) (ks.length + fuel) listed a w inv (Region.free_spec ho hf) hrk hy hS
        (sink_bulk hB hQ ks _ _ w fuel ht (inv.set hrk hkn) hS hK)

theorem wp_norm {c : Code} {a : Act} {w : World} (h : c.wp P (fun e a W => e = .normal ∧ Q .normal a W) a w) : c.wp P Q a w := Code.wp_mono (by rintro e a W ⟨rfl, h⟩; exact h) h

/-- A region: those at ks, that only read, first; then as XSink goes. -/
theorem region_mix {id n m : Nat} {l : List Oper} {a : Act} {w : World} (S : World → Prop) (ks : List Nat) (hm : P.follows .mixedOrders = true) (hsz : l.toArray.size = n + 1) (hm2 : ks.length + m = n + 1)
    (hB : (Region.sinkB .any l.toArray n && Region.chainB .any l.toArray n && decide (n < l.toArray.size) && Region.noSelect l.toArray) = true) (ht : takeOk .any l.toArray n ks (Array.replicate (n + 1) false) = true) (hS0 : S w.drew)
    (h : wpQuiet P l.toArray S (fun a' => HeadInv .any l.toArray n (setAll ks (Array.replicate (n + 1) false)) → WpSink P .any l.toArray (fun e a W => e = .normal ∧ Q .normal a W) S n m (setAll ks (Array.replicate (n + 1) false)) a' w.drew) (picks l ks) a) : (Code.region id l.toArray true).wp P Q a w :=
  wp_norm (region_sink (n := n) S hm hsz hS0 (fun inv hS => by
    rw [hsz] at inv
    have := sink_bulk hB (fun _ _ _ _ _ h => by cases h.1) ks (Array.replicate (n + 1) false) a w.drew m ht inv hS h
    rw [hm2] at this
    exact this))
end
end Mix
end Go.Proofs.YtaodldagmmephaaGreat

/- XMix goes on: more operations that only read, at one stroke, in the midst of a region. No program in sight. -/
namespace Go.Proofs.YtaodldagmmephaaGreat
open Go.RowKit

namespace Mix
theorem more {P : Program} {Q : Exit → Act → World → Prop} {S : World → Prop} {n m f : Nat} {l : List Oper} {listed : Array Bool} {a : Act} {w : World} (ks : List Nat) (hm2 : ks.length + m = f)
    (hB : (Region.sinkB .any l.toArray n && Region.chainB .any l.toArray n && decide (n < l.toArray.size) && Region.noSelect l.toArray) = true) (ht : takeOk .any l.toArray n ks listed = true) (inv : HeadInv .any l.toArray n listed) (hS : S w)
    (h : wpQuiet P l.toArray S (fun a' => HeadInv .any l.toArray n (setAll ks listed) → WpSink P .any l.toArray (fun e a W => e = .normal ∧ Q .normal a W) S n m (setAll ks listed) a' w) (picks l ks) a) :
    WpSink P .any l.toArray (fun e a W => e = .normal ∧ Q .normal a W) S n f listed a w := by
  subst hm2
  exact sink_bulk hB (fun _ _ _ _ _ h => by cases h.1) ks listed a w m ht inv hS h
end Mix
end Go.Proofs.YtaodldagmmephaaGreat

/- Only the blocks of F, and new ones, were written. -/
namespace Go.Proofs.YtaodldagmmephaaGreat
open Go.RowKit

/-- Only the blocks of F, and new ones, were written; those of F' are such. -/
def Step (F F' : Nat → Prop) (w w' : World) : Prop := Fr F w w' ∧ ∀ k, F' k → F k ∨ w.heap.size ≤ k
theorem Step.refl (F : Nat → Prop) (w : World) : Step F F w w := ⟨Fr.refl _ _, fun _ h => .inl h⟩
theorem Step.trans {F F1 F2 : Nat → Prop} {w w1 w2 : World} (h : Step F F1 w w1) (k : Step F1 F2 w1 w2) : Step F F2 w w2 :=
  ⟨Fr.trans h.1 k.1 (fun i hi hlt => (h.2 i hi).resolve_right (by omega)), fun i hi => by
    rcases k.2 i hi with h1 | h1
    · exact h.2 i h1
    · exact .inr (Nat.le_trans h.1.size h1)⟩
theorem Step.still {F : Nat → Prop} {w w' : World} (h : Below w.heap.size w w') : Step F F w w' := ⟨Fr.of_all h, fun _ h => .inl h⟩
theorem Step.sub {F : Nat → Prop} {w w' : World} {db : Nat} (h : Fr (fun k => k = db) w w') (hdb : F db) : Step F F w w' := ⟨h.mono (fun i _ hi => by have : i = db := hi; rw [this]; exact hdb), fun _ h => .inl h⟩
end Go.Proofs.YtaodldagmmephaaGreat

/- A region that draws its order, whose operations only read and whose calls leave what was there: walked once. -/
namespace Go.Proofs.YtaodldagmmephaaGreat
open Go.RowKit

/-- The worlds that keep all that w holds. -/
def Later (w : World) : Type := {W : World // Below w.heap.size w W}

instance (w : World) : Inhabited (Later w) := ⟨⟨w, Below.refl _ w⟩⟩

theorem wp_region_later {P : Program} {id : Nat} {Q : Exit → Act → World → Prop} {a : Act} {w : World} {l : List Oper} (hm : P.follows .mixedOrders = true) (hB : Region.lexB .any l.toArray = true)
    (h : wpQuiet P l.toArray (fun w' => ∃ p : Later w, w' = p.1) (fun a' => ∀ w', (∃ p : Later w, w' = p.1) → Q .normal a' w') l a) : (Code.region id l.toArray true).wp P Q a w :=
  wp_region_quiet (C := fun w' => ∃ p : Later w, w' = p.1) hm hB ⟨⟨w.drew, ((Fr.refl (fun _ => False) w).drew).below (Nat.le_refl _) (fun _ h => h.elim)⟩, rfl⟩ (by simpa using h)

theorem Calls.later_of {P : Program} {f : FuncId} {args : Array Value} {w : World} {p : Later w} {v : Value}
    (h : Calls P f args p.1 fun e w' => e = .returned v ∧ Below p.1.heap.size p.1 w') : Calls P f args p.1 fun e w'' => e = .returned v ∧ ∃ q : Later w, w'' = q.1 :=
  h.mono fun _ w' ⟨he, hb⟩ => ⟨he, ⟨w', p.2.trans (hb.mono p.2.size)⟩, rfl⟩
theorem Calls.later_same {P : Program} {f : FuncId} {args : Array Value} {w : World} {p : Later w} {v : Value}
    (h : Calls P f args p.1 fun e w' => e = .returned v ∧ w' = p.1) : Calls P f args p.1 fun e w'' => e = .returned v ∧ ∃ q : Later w, w'' = q.1 :=
  h.mono fun _ _ ⟨he, hb⟩ => ⟨he, p, hb⟩
end Go.Proofs.YtaodldagmmephaaGreat

/- A region that draws its order, one operation of which is loud and waits for all ahead of it: those ahead only read (walked once), those behind only move. No program in sight. (XLoudIn without a fence.) -/
namespace Go.Proofs.YtaodldagmmephaaGreat
open Go.RowKit

namespace Loud
def full (l : List Oper) (n : Nat) (m : List Bool) : Array Bool := (m ++ List.replicate (l.length - n) false).toArray
/-- Each waits only for such as stand ahead of it. -/
def lowB (l : List Oper) (n : Nat) : Bool := (List.range n).all fun i => match l[i]? with
  | none => true
  | some o => o.after.all fun e => !Region.binds .any e || decide (e.on < i)
def headOk (l : List Oper) (n : Nat) : Bool := Region.sinkB .any l.toArray n && Region.chainB .any l.toArray n && lowB l n
def tailOk (l : List Oper) (n : Nat) : Bool :=
  decide (Region.ready .any l.toArray (full l n (List.replicate n true)) = [n]) && Region.noSelect l.toArray && Region.lexFrom .any l.toArray (l.drop (n + 1)).length (n + 1) ((full l n (List.replicate n true)).setIfInBounds n true)
def plainHead (l : List Oper) (n : Nat) : Bool := (l.take n).all (fun o => o.guard.isNone)

section
variable {P : Program} {l : List Oper} {C : World → Prop} {Q : Exit → Act → World → Prop}

theorem full_get {n : Nat} {m : List Bool} (hl : m.length = n) {j : Nat} (hj : j < n) (d : Bool) : (full l n m).getD j d = m.getD j d := by
  unfold full
  rw [Array.getD_eq_getD_getElem?, List.getElem?_toArray, List.getElem?_append_left (by omega), List.getD_eq_getElem?_getD]
theorem full_far {n : Nat} {m : List Bool} (hl : m.length = n) {j : Nat} (hj : n ≤ j) : (full l n m).getD j false = false := by
  unfold full
  rw [Array.getD_eq_getD_getElem?, List.getElem?_toArray, List.getElem?_append_right (by omega), List.getElem?_replicate]
  split <;> rfl
theorem least {m : List Bool} : ∀ (k : Nat), k < m.length → m.getD k true = false → ∃ x, x ≤ k ∧ m.getD x true = false ∧ ∀ y, y < x → m.getD y false = true := by
  intro k
  induction k using Nat.strongRecOn with
  | _ k ih =>
    intro hk hf
    by_cases h : ∃ y, y < k ∧ m.getD y true = false
    · obtain ⟨y, hy, hyf⟩ := h
      obtain ⟨x, h1, h2, h3⟩ := ih y hy (by omega) hyf
      exact ⟨x, by omega, h2, h3⟩
    · refine ⟨k, Nat.le_refl _, hf, fun y hy => ?_⟩
      cases hc : m.getD y false with
      | true => rfl
      | false =>
        refine absurd ⟨y, hy, ?_⟩ h
        rw [List.getD_eq_getElem?_getD, List.getElem?_eq_getElem (by omega)] at hc ⊢
        exact hc

theorem head_any {n T : Nat} {Q1 : Act → Prop} (hg : plainHead l n = true) (hn : n < l.length) (hO : headOk l n = true)
    (fin : ∀ a w, C w → Q1 a → wpAny P .any l.toArray Q T (full l n (List.replicate n true)) a w) :
    ∀ (fuel : Nat) (m : List Bool) (a : Act) (w : World), m.length = n → m.count false = fuel → HeadInv .any l.toArray n (full l n m) → C w → wpAnyQ P .any (l.take n).toArray C Q1 fuel m.toArray a → wpAny P .any l.toArray Q (fuel + T) (full l n m) a w
  | 0, m, a, w, hl, hc, _, hw, h => by
    have e : m = List.replicate n true := by
      rw [← hl]
      refine List.eq_replicate_of_mem (fun b hb => ?_)
      cases b with
      | true => rfl
      | false => exact absurd hb (List.count_eq_zero.1 hc)
    rw [Nat.zero_add, e]
    exact fin a w hw h.2
  | fuel + 1, m, a, w, hl, hc, inv, hw, h => by
    simp only [headOk, Bool.and_eq_true] at hO
    obtain ⟨⟨hs, hch⟩, hlow⟩ := hO
    have hex : ∃ k, k < m.length ∧ m.getD k true = false := by
      have h1 : false ∈ m := List.count_pos_iff.1 (by omega)
      obtain ⟨k, hk, e⟩ := List.getElem_of_mem h1
      exact ⟨k, hk, by rw [List.getD_eq_getElem?_getD, List.getElem?_eq_getElem hk, e]; rfl⟩
    obtain ⟨k, hk, hkf⟩ := hex
    have hwait : ∀ t, n ≤ t → t ∉ Region.ready .any l.toArray (full l n m) := tail_waits hs hch (by simpa using hn) inv _ k rfl (by omega) (by rw [full_get hl (by omega)]; exact hkf)
    rw [Nat.add_right_comm]
    refine ⟨fun h0 => ?_, fun i hi => ?_⟩
    · obtain ⟨x, hx1, hx2, hx3⟩ := least k hk hkf
      have hxn : x < n := by omega
      have hr : x ∈ Region.ready .any l.toArray (full l n m) := by
        refine mem_ready.2 ⟨by rw [full_get hl hxn]; exact hx2, l[x]'(by omega), by rw [List.getElem?_toArray]; exact List.getElem?_eq_getElem (by omega), fun e he hb => ?_⟩
        have h1 := List.all_eq_true.1 hlow x (List.mem_range.2 hxn)
        rw [List.getElem?_eq_getElem (by omega)] at h1
        simp only at h1
        have h2 := Array.all_eq_true_iff_forall_mem.1 h1 e he
        simp only [hb, Bool.not_true, Bool.false_or, decide_eq_true_eq] at h2
        rw [full_get hl (by omega)]
        exact hx3 _ h2
      rw [h0] at hr
      cases hr
    · have hin : i < n := by
        rcases Nat.lt_or_ge i n with h1 | h1
        · exact h1
        · exact absurd hi (hwait i h1)
      obtain ⟨hun, oi, hoi, hall⟩ := mem_ready.1 hi
      have hoi2 : (l.take n)[i]? = some oi := by rw [List.getElem?_take_of_lt hin, ← List.getElem?_toArray]; exact hoi
      have hunm : m.getD i true = false := by rw [← full_get hl hin]; exact hun
      have hi2 : i ∈ Region.ready .any (l.take n).toArray m.toArray := by
        refine mem_ready.2 ⟨by rw [Array.getD_eq_getD_getElem?, List.getElem?_toArray, ← List.getD_eq_getElem?_getD]; exact hunm, oi, by rw [List.getElem?_toArray]; exact hoi2, fun e he hb => ?_⟩
        have h1 := hall e he hb
        rcases Nat.lt_or_ge e.on n with h2 | h2
        · rw [full_get hl h2] at h1
          rw [Array.getD_eq_getD_getElem?, List.getElem?_toArray, ← List.getD_eq_getElem?_getD]
          exact h1
        · rw [full_far hl h2] at h1
          cases h1
      have hq := h.2 i hi2
      have hgd : oi.guard = none := by
        have := List.all_eq_true.1 hg oi (List.mem_of_getElem? hoi2)
        simpa using this
      have hset : (full l n m).setIfInBounds i true = full l n (m.set i true) := by
        unfold full
        rw [List.setIfInBounds_toArray, List.set_append_left _ _ (by omega)]
      have hinv := inv.set hi hin
      rw [hset] at hinv
      unfold qOp at hq
      unfold wpOp
      have hoi3 : (l.take n).toArray[i]? = some oi := by rw [List.getElem?_toArray]; exact hoi2
      simp only [hoi3, Region.wanted, hgd, if_true] at hq
      simp only [hoi, Region.wanted, hgd, if_true]
      refine .inl (Oper.wp_of_quiet hw (fun a' w' hw' hk => ?_) hq)
      rw [hset]
      refine head_any hg hn (by simp only [headOk, Bool.and_eq_true]; exact ⟨⟨hs, hch⟩, hlow⟩) fin fuel (m.set i true) a' w' (by rw [List.length_set, hl]) ?_ hinv hw' ?_
      · have e1 := List.count_set (a := true) (b := false) (l := m) (i := i) (by omega)
        have e2 : m[i]'(by omega) = false := by
          rw [List.getD_eq_getElem?_getD, List.getElem?_eq_getElem (by omega)] at hunm
          exact hunm
        rw [e1, e2]
        simp
        omega
      · rw [List.setIfInBounds_toArray] at hk
        exact hk

theorem wp_region_loud {id n : Nat} {a : Act} {w : World} {o : Oper} (C : World → Prop) (hg : plainHead l n = true) (ho : l[n]? = some o) (hog : o.guard = none) (hm : P.follows .mixedOrders = true)
    (hB : Region.lexB .any (l.take n).toArray = true) (hM : headOk l n = true) (hT : tailOk l n = true) (hC : C w.drew)
    (h : wpQuiet P (l.take n).toArray C (fun a' => ∀ w', C w' → ∀ K : Act → World → Prop, (∀ a2 w2, wpQuiet P l.toArray (fun x => x = w2) (fun a3 => Q .normal a3 w2) (l.drop (n + 1)) a2 → K a2 w2) → o.wp P a' w' K Q) (l.take n) a) :
    (Code.region id l.toArray true).wp P Q a w := by
  have hn : n < l.length := (List.getElem?_eq_some_iff.1 ho).1
  have hol : l.toArray[n]? = some o := by rw [List.getElem?_toArray]; exact ho
  simp only [tailOk, Bool.and_eq_true, decide_eq_true_eq] at hT
  obtain ⟨⟨hT1, hT2⟩, hT3⟩ := hT
  simp only [Region.lexB, Bool.and_eq_true] at hB
  refine wp_region_any hm ?_
  have hsz : l.toArray.size = n + ((l.drop (n + 1)).length + 1) := by rw [List.length_drop]; simp; omega
  have hlt : (l.take n).length = n := by rw [List.length_take]; omega
  have e0 : Array.replicate l.toArray.size false = full l n (List.replicate n false) := by
    unfold full
    rw [List.replicate_append_replicate, show n + (l.length - n) = l.toArray.size by simp; omega, ← List.toArray_replicate]
  rw [e0, hsz]
  have inv : HeadInv .any l.toArray n (full l n (List.replicate n false)) := by
    rw [← e0]
    exact ⟨by simp, fun j oj _ hl => (by rw [getD_replicate_false] at hl; cases hl), fun t _ ht => (by have h9 : t < l.length := (by simpa using ht); simp [h9])⟩
  refine head_any (C := C) hg hn hM ?_ n (List.replicate n false) a _ (by simp) (by simp) inv hC ?_ (Q1 := fun a' => ∀ w', C w' → ∀ K : Act → World → Prop, (∀ a2 w2, wpQuiet P l.toArray (fun x => x = w2) (fun a3 => Q .normal a3 w2) (l.drop (n + 1)) a2 → K a2 w2) → o.wp P a' w' K Q)
  · intro a' w' hw' hk
    refine ⟨fun h0 => absurd (hT1.symm.trans h0) (by simp), fun i hi => ?_⟩
    rw [hT1] at hi
    have hi : i = n := by simpa using hi
    subst hi
    unfold wpOp
    simp only [hol, Region.wanted, hog, if_true]
    refine .inl (hk w' hw' _ (fun a2 w2 h2 => ?_))
    refine wpAny_of_quiet (C := fun x => x = w2) (Q := fun a3 => Q .normal a3 w2) (fun a3 w3 hw3 hq => by rw [hw3]; exact hq) _ _ _ _ rfl ?_
    exact wpAnyQ_lex hT2 (l.drop (i + 1)) (i + 1) _ a2 (fun j => by rw [List.getElem?_drop, List.getElem?_toArray]) hT3 h2
  · have := wpAnyQ_lex (C := C) (md := .any) hB.1 (l.take n) 0 (Array.replicate (l.take n).toArray.size false) a (by simp) (by simpa using hB.2) h
    have e1 : Array.replicate (l.take n).toArray.size false = (List.replicate n false).toArray := by rw [List.size_toArray, hlt, List.toArray_replicate]
    rw [e1, hlt] at this
    exact this

/-- A call as the loud operation. -/
theorem wp_call {a : Act} {w : World} {K : Act → World → Prop} {o : Oper} {f : Nat} {args : Array Operand} {tys : Array TypeId} (ho : o.op = Op.call { callee := Callee.value (Operand.func f), args := args, argTypes := tys })
    (hen : ∀ ys w, (callFunc f ys).run P w = .ok (.enter f ys) w) (zs : Array Value) (hzs : args.toList.map a.eval = zs.toList) (h : Calls P f zs w fun e w' => ∃ v, e = .returned v ∧ K (a.put o.dst v) w') : o.wp P a w K Q := by
  have hzs : args.map a.eval = zs := by
    rw [← Array.toList_inj, Array.toList_map]
    exact hzs
  subst hzs
  unfold Oper.wp
  simp [execOp, ho, resolve, invoke, go_sem, hen, Oper.upon]
  refine h.mono ?_
  rintro e w' ⟨v, rfl, hk⟩
  exact hk
end
end Loud
end Go.Proofs.YtaodldagmmephaaGreat

