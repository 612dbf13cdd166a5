/- A row of things of k cells each, sorted by the library: it stays the call's own. No program in sight. -/
import Derived.Test.YthdpajgnigilhaaFr
import Derived.Test.YthdpajgnigilhaaHeapList
import Derived.Shelf.GgSortFunc.RowK
import Derived.Shelf.GgSortFunc.InsertionK
import Derived.Sort.OwnSorted
namespace Go.Proofs.Ythdpajgnigilhaa
open Go.RowKit Go.Sort

section
variable {α : Type} [Inhabited α] (f : α → List Value) {k : Nat}

theorem flat_rowOf (hf : ∀ x, (f x).length = k) (hk : 0 < k) (zs : List α) : flatK f k zs.toArray = (rowOf f zs).toArray := by
  have hl := rowOf_length f hf zs
  refine ext_get! (by simp [hl]) fun t ht => ?_
  have ht' : t < zs.length * k := by simpa using ht
  rw [get_flatK f k zs.toArray t (by simpa using ht')]
  have hd : t / k < zs.length := (Nat.div_lt_iff_lt_mul hk).2 ht'
  have hm : t % k < k := Nat.mod_lt _ hk
  have r := rowOf_at f hf zs (t / k) (t % k) hd hm
  rw [show t / k * k + t % k = t by rw [Nat.mul_comm]; exact Nat.div_add_mod t k] at r
  have e1 : zs.toArray[t / k]! = zs.getD (t / k) default := by simp [List.getD, hd]
  rw [e1]
  generalize hx : zs.getD (t / k) default = x at *
  have h1 : (f x)[t % k]! = (f x)[t % k]'(by rw [hf]; exact hm) := getElem!_pos _ _ (by rw [hf]; exact hm)
  have h2 : (rowOf f zs).toArray[t]! = (rowOf f zs)[t]'(by omega) := by simp [show t < (rowOf f zs).length by omega]
  rw [h1, h2]
  rw [List.getElem?_eq_getElem (show t < (rowOf f zs).length by omega), List.getElem?_eq_getElem (by rw [hf]; exact hm)] at r
  exact (Option.some.inj r).symm

theorem holdsV_of_block {w : World} {g : Nat} {cur : Array Value} {e : TypeId} {vs : List Value} (hb : w.heap[g]? = some (.cells cur e (0, 0))) (ht : cur.toList.take vs.length = vs) : Holds id w g 0 vs.toArray := by
  intro j hj
  have hj' : j < vs.length := by simpa using hj
  refine ⟨?_, by simp [World.frozen?, hb]⟩
  have h1 : (cur.toList.take vs.length)[j]? = vs[j]? := by rw [ht]
  rw [List.getElem?_take_of_lt hj'] at h1
  simp only [World.cell?, hb, Nat.zero_add]
  simp only [Option.isSome_none, Bool.false_eq_true, if_false]
  rw [← Array.getElem?_toList, h1]
  simp [hj']

theorem heap_sortedV {w : World} {g n : Nat} {os : Array Obj} {cur : Array Value} {e : TypeId} {fr : Nat × Nat} (d : Array Value) (hb : w.heap[g]? = some (.cells cur e fr)) :
    (grow (putRow id (Sort.ahead w n) g 0 d) os).heap[g]? = some (.cells (putCells id 0 d cur) e fr) := by
  have hg : g < w.heap.size := (Array.getElem?_eq_some_iff.1 hb).1
  rw [heap_grow_old _ _ (by simpa using hg)]
  simp [putRow, mapBlock, Sort.ahead, Array.getElem?_modify, hb, onCells]

theorem grownBy_sortedV {w : World} {g n : Nat} {os : Array Obj} (d : Array Value) : w.grownBy (grow (putRow id (Sort.ahead w n) g 0 d) os) (some g) := by
  refine ⟨rfl, rfl, rfl, by simp, fun k hk hne => ?_⟩
  rw [heap_grow_old _ _ (by simpa using hk)]
  have : g ≠ k := fun e => hne (by rw [e])
  simp [putRow, mapBlock, Sort.ahead, Array.getElem?_modify, this]

theorem take_putCellsV (cur : Array Value) (ts : List Value) (h : ts.length ≤ cur.size) : (putCells id 0 ts.toArray cur).toList.take ts.length = ts := by
  apply List.ext_getElem?
  intro j
  by_cases hj : j < ts.length
  · rw [List.getElem?_take_of_lt hj, Array.getElem?_toList]
    simp [putCells, hj, show j < cur.size by omega]
  · rw [List.getElem?_take_eq_none (by omega), List.getElem?_eq_none (by omega)]

/-- A row that is owned, ready for the sort. -/
theorem holdsK_of_own (hf : ∀ x, (f x).length = k) (hk : 0 < k) {w : World} {g : Nat} {cur : Array Value} {e : TypeId} {zs : List α} (hb : w.heap[g]? = some (.cells cur e (0, 0))) (ht : cur.toList.take (zs.length * k) = rowOf f zs) : HoldsK f k w g 0 zs.toArray := by
  unfold HoldsK
  rw [flat_rowOf f hf hk]
  exact holdsV_of_block hb (by rw [rowOf_length f hf]; exact ht)

/-- Behind the sort the same slice owns the sorted row. -/
theorem ownsRow_sortedK (hf : ∀ x, (f x).length = k) (hk : 0 < k) {w : World} {base g cap n : Nat} {e : TypeId} {os : Array Obj} {cur : Array Value} {ss ts : List α} (hl : ts.length = ss.length) (hbase : base ≤ g) (hb : w.heap[g]? = some (.cells cur e (0, 0)))
    (h1 : ss.length ≤ cap) (h2 : cap ≤ maxLen) (h3 : cur.size = cap * k) :
    (sortWorldK f k w g 0 n ts.toArray os).ownsRow base e k (.slice (some ⟨g, 0, none⟩) ss.length cap) ss.length (rowOf f ts) := by
  unfold sortWorldK putRowK
  rw [flat_rowOf f hf hk]
  have hlen := rowOf_length f hf ts
  have hle : (rowOf f ts).length ≤ cur.size := by rw [hlen, hl, h3]; exact Nat.mul_le_mul_right k h1
  refine ⟨by rw [hlen, hl], .inr ⟨g, cap, _, rfl, hbase, heap_sortedV _ hb, h1, h2, by simp [putCells, h3], ?_⟩⟩
  have := take_putCellsV cur (rowOf f ts) hle
  rw [hlen, hl] at this
  exact this

theorem grownBy_sortedK {w : World} {g n : Nat} {os : Array Obj} (ts : Array α) : w.grownBy (sortWorldK f k w g 0 n ts os) (some g) := grownBy_sortedV _
end
end Go.Proofs.Ythdpajgnigilhaa
