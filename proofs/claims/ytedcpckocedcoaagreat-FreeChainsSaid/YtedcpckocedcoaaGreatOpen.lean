/- Arguments opened: a slice of things of several cells each reads as a list. -/
import Derived.Test.YtedcpckocedcoaaGreatInts
import Derived.ProofKit
import Derived.OpenShut
import Derived.ShutString
import Derived.ChangeOld
import Derived.Deep.Slices
import Derived.Deep.Fields
namespace Go.Proofs.YtedcpckocedcoaaGreat
open Go.ChangeShapes Go.WideShapes Go.ChangeAt Go.RowKit Go.Deep

section
variable {H : Type} {enc : TypeId × Value → H} {P : Program} {w : World}

/-- A slice whose elements each read by f. -/
theorem open_rows {α : Type} [Inhabited α] (f : α → List Value) {size : Nat} (hf : ∀ x, (f x).length = size) (hs : 0 < size) (good : α → Prop) {t e : TypeId} (ht : P.underlying t = some (.slice e)) (hC : P.cellsOf e = size)
    (hel : ∀ n cs' y, DataW.trod enc P w 0 (fun _ => true) true n e cs' = some y → ∃ x, cs' = f x ∧ good x) {fuel : Nat} {p : Option Addr} {len cap : Nat} {x : DataW H × List MemPlace}
    (h : DataW.trod enc P w 0 (fun _ => true) true fuel t [.slice p len cap] = some x) : ∃ zs, RdG f w w.heap.size p len zs ∧ ∀ z ∈ zs, good z := by
  rcases open_slice ht h with ⟨hcs, _⟩ | ⟨a, len', cap', m, n, D, Pl, hcs, _, hl, _, hm, _, hi⟩
  · injection hcs with hcs _
    injection hcs with h1 h2 h3
    subst h1 h2 h3
    exact ⟨[], RdG.nil, by simp⟩
  · injection hcs with hcs _
    injection hcs with h1 h2 h3
    subst h1 h2 h3
    simp only [if_true] at hm
    have hx : ∀ i, ∃ x, i < len → (w.cells? 0 (a.add (i * size)) size = some (f x) ∧ good x) := by
      intro i
      by_cases hlt : i < len
      · obtain ⟨cs', hc, ht'⟩ := hi i (by omega)
        obtain ⟨x, rfl, hg⟩ := hel _ _ _ ht'
        rw [hC] at hc
        exact ⟨x, fun _ => ⟨hc, hg⟩⟩
      · exact ⟨default, fun h => absurd h hlt⟩
    let X : Nat → α := fun i => Classical.choose (hx i)
    have hX : ∀ i, i < len → (w.cells? 0 (a.add (i * size)) size = some (f (X i)) ∧ good (X i)) := fun i => Classical.choose_spec (hx i)
    refine ⟨(List.range len).map X, ⟨by simp, fun hn => ?_⟩, ?_⟩
    · obtain ⟨b, o, sp⟩ := a
      obtain ⟨_, hl0, hc0⟩ := World.cells?_some (hX 0 hn).1
      have h0 := hc0 0 hs
      have hsome : ∃ u, (f (X 0))[0]? = some u := ⟨_, List.getElem?_eq_getElem (by omega)⟩
      obtain ⟨u0, hu0⟩ := hsome
      rw [hu0] at h0
      have hsp : sp = none := by simpa [Addr.add] using World.cell?_spot h0
      subst hsp
      have hb : b < w.heap.size := by have := cell_lt h0; simpa [Addr.add] using this
      refine ⟨b, o, rfl, hb, fun j u hu => ?_⟩
      have hj : j < len * size := by
        have := (List.getElem?_eq_some_iff.1 hu).1
        rw [rowOf_length f hf] at this
        simpa using this
      have hk : j / size < len := Nat.div_lt_of_lt_mul (by rw [Nat.mul_comm]; exact hj)
      have hr : j % size < size := Nat.mod_lt _ hs
      have hjj : j = j / size * size + j % size := by rw [Nat.mul_comm]; exact (Nat.div_add_mod j size).symm
      have e1 := rowOf_at f hf ((List.range len).map X) (j / size) (j % size) (by simpa using hk) hr
      rw [← hjj, hu] at e1
      have e2 : ((List.range len).map X).getD (j / size) default = X (j / size) := by
        rw [List.getD_eq_getElem?_getD, List.getElem?_map, List.getElem?_range hk]
        rfl
      rw [e2] at e1
      obtain ⟨_, _, hcc⟩ := World.cells?_some (hX _ hk).1
      have e3 := hcc (j % size) hr
      rw [add_at, add_at, ← e1] at e3
      rw [hjj, ← Nat.add_assoc]
      exact e3
    · intro z hz
      obtain ⟨i, hi', rfl⟩ := List.mem_map.1 hz
      exact (hX i (List.mem_range.1 hi')).2

/-- The cells of a struct of one-cell fields, each with its reading. -/
theorem open_fields {fs : Array Field} {e : TypeId} (he : P.underlying e = some (.struct fs)) (hone : oneCellFields P fs = true) {n : Nat} {cs : List Value} {y : DataW H × List MemPlace}
    (h : DataW.trod enc P w 0 (fun _ => true) true n e cs = some y) (hlen : cs.length = fs.size) :
    ∃ m, ∀ (j : Nat) (fd : Field), fs[j]? = some fd → ∃ v z, cs[j]? = some v ∧ DataW.trod enc P w 0 (fun _ => true) true m fd.type [v] = some z := by
  obtain ⟨ys, n', _, _, _, hyl, hf⟩ := DataW.trod_struct he h
  refine ⟨n', fun j fd hj => ?_⟩
  obtain ⟨ho, hk⟩ := hone_of hone j fd hj
  have hjl : j < fs.size := (Array.getElem?_eq_some_iff.1 hj).1
  have h1 := hf j fd hj
  rw [ho, hk] at h1
  have hd : (cs.drop j).take 1 = [cs[j]'(by omega)] := by
    rw [List.drop_eq_getElem_cons (by omega)]
    rfl
  rw [hd] at h1
  have hys : ys[j]? = some (ys[j]'(by omega)) := List.getElem?_eq_getElem (by omega)
  exact ⟨_, _, List.getElem?_eq_getElem (by omega), h1.trans hys⟩
end

end Go.Proofs.YtedcpckocedcoaaGreat
