/- The Book of texts: rows by what stands at each place. (Turned from the Book of ints by gen-texts.py.) -/
import Derived.Test.YtedcpckocedcoaaGreatQtI
import Derived.Test.YtedcpckocedcoaaGreatBkL
namespace Go.Proofs.YtedcpckocedcoaaGreat
open Go.RowKit

/-- n numbers by their places. -/
def lstT (n : Nat) (f : Nat → ByteArray) : List ByteArray := (List.range n).map f
theorem lstT_length (n : Nat) (f : Nat → ByteArray) : (lstT n f).length = n := by simp [lstT]
theorem lstT_zero (f : Nat → ByteArray) : lstT 0 f = [] := rfl
theorem lstT_el {n i : Nat} (f : Nat → ByteArray) (h : i < n) : HL.el (lstT n f) i = f i := by
  unfold HL.el lstT
  rw [List.getD_eq_getElem?_getD, List.getElem?_map, List.getElem?_range h]
  rfl
theorem lstT_add (n m : Nat) (f : Nat → ByteArray) : lstT (n + m) f = lstT n f ++ lstT m (fun k => f (n + k)) := by
  unfold lstT
  rw [List.range_add, List.map_append, List.map_map]
  rfl
theorem lstT_congr {n : Nat} {f g : Nat → ByteArray} (h : ∀ i, i < n → f i = g i) : lstT n f = lstT n g := by
  unfold lstT
  exact List.map_congr_left (fun i hi => h i (List.mem_range.1 hi))
theorem lstT_of (zs : List ByteArray) : lstT zs.length (HL.el zs) = zs :=
  HL.ext_el (lstT_length _ _) (fun j hj => lstT_el _ (by rwa [lstT_length] at hj))
theorem lstT_take {n k : Nat} (f : Nat → ByteArray) (h : k ≤ n) : (lstT n f).take k = lstT k f := by
  obtain ⟨m, rfl⟩ : ∃ m, n = k + m := ⟨n - k, by omega⟩
  rw [lstT_add, List.take_left' (lstT_length k f)]
theorem lstT_set {n i : Nat} (f : Nat → ByteArray) (x : ByteArray) (h : i < n) : (lstT n f).set i x = lstT n (fun k => if k = i then x else f k) := by
  refine HL.ext_el (by simp [lstT_length]) (fun j hj => ?_)
  rw [List.length_set, lstT_length] at hj
  rw [lstT_el _ hj]
  unfold HL.el
  rw [List.getD_eq_getElem?_getD, List.getElem?_set]
  by_cases e : i = j
  · rw [if_pos e, if_pos (by rw [lstT_length]; omega), if_pos e.symm]; rfl
  · rw [if_neg e, if_neg (fun h => e h.symm)]
    have := lstT_el f hj
    unfold HL.el at this
    rw [List.getD_eq_getElem?_getD] at this
    exact this


/-- append(row, xs...) of ints: what else is left. -/
def AppT (w w' : World) (v : Value) (n : Nat) : Prop := ∀ (base' : Nat) (u : Value) (k : Nat) (ys : List Value), (u.ownBlock = v.ownBlock → k ≤ n) → w.ownsRow base' 9 1 u k ys → w'.ownsRow base' 9 1 u k ys

set_option maxRecDepth 100000 in
theorem append_headsT {ops : Array Oper} {rest : List Oper} {o : Oper} {a : Act} {Q : Exit → Act → World → Prop} {w : World} (hgd : o.guard = none) (s x : Operand)
    (ho : o.op = .call { callee := .builtin .append, args := #[s, x], argTypes := #[68, 68] }) (base : Nat) (v : Value) (n : Nat) (xs : List Value) (hs : a.eval s = v) (hown : w.ownsRow base 9 1 v n xs)
    (p : Option Addr) (m c : Nat) (zs : List ByteArray) (hx : a.eval x = .slice p m c) (hR : RdT w w.heap.size p m zs) (hm0 : 0 < m) (hsm : n + m ≤ 1000000) (hbase : base ≤ w.heap.size)
    (h : ∀ g cap w', w'.ownsRow base 9 1 (.slice (some ⟨g, 0, none⟩) (n + m) cap) (n + m) (xs ++ rowOf bcells zs) → w.grownBy w' v.ownBlock → AppT w w' v n → (v.ownBlock = some g ∨ g = w.heap.size) → wpList Tryz.prog ops Q rest (a.put o.dst (.slice (some ⟨g, 0, none⟩) (n + m) cap)) w') : wpList Tryz.prog ops Q (o :: rest) a w := by
  obtain ⟨i0, hi0, hz0, hz1, hz2⟩ := info_parts info_str
  have hz := hR.1
  have hlen : (rowOf bcells zs).length = m * 1 := by rw [rowOf_length bcells bcells_length, hz]
  obtain ⟨b, o', rfl, hlt, hc⟩ := hR.2 hm0
  have hnews : ∀ j u, (rowOf bcells zs)[j]? = some u → w.cell? ((⟨b, o', none⟩ : Addr).add j) = some u := by
    intro j u hu
    obtain ⟨hj, rfl⟩ := rowOf_bcells_get hu
    rw [add_at, ← hc j (by omega)]
  obtain ⟨g, cap, w', hr, h2, h3, h4, _⟩ := run_append_lies (P := Tryz.prog) w 68 o.type base 9 i0 (.string ByteArray.empty) 1 16 Tryz.underlying68 hi0 hz0 hz1 hz2 rfl (by omega) v n xs hown ⟨b, o', none⟩ m c (rowOf bcells zs) hlen hnews rowOf_bcells_one hm0 (by unfold maxLen; omega) (by omega) hbase w.heap.size rfl
  refine wpList_plain hgd fun _ hK => ?_
  unfold Oper.wp execOp
  simp only [ho, resolve, invoke, builtin, Sem.run_bind, Sem.run_pure, Result.andThen_ok, List.map_toArray, List.map_cons, List.map_nil, hs, hx, hr]
  refine hK _ _ (h g cap w' h2 h3 (fun base' u k ys hk hu => ?_) h4)
  exact run_append_heads (P := Tryz.prog) 68 o.type i0 (.string ByteArray.empty) 16 Tryz.underlying68 hi0 hz0 hz1 hz2 rfl (by omega) hown ⟨b, o', none⟩ m c (rowOf bcells zs) hlen hnews rowOf_bcells_one (by unfold maxLen; omega) (by omega) hbase hr hk hu
end Go.Proofs.YtedcpckocedcoaaGreat
