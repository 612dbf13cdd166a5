/- The Book of ints: rows by what stands at each place, and append that leaves every head as it was. -/
import Derived.Test.YtedcpckocedcoaaGreatAppR
import Derived.Laws.OwnMore
import Derived.Deep.AppendLies
namespace Go.Proofs.YtedcpckocedcoaaGreat
open Go.RowKit

/-- n numbers by their places. -/
def lst (n : Nat) (f : Nat → Int) : List Int := (List.range n).map f
theorem lst_length (n : Nat) (f : Nat → Int) : (lst n f).length = n := by simp [lst]
theorem lst_zero (f : Nat → Int) : lst 0 f = [] := rfl
theorem lst_el {n i : Nat} (f : Nat → Int) (h : i < n) : HL.el (lst n f) i = f i := by
  unfold HL.el lst
  rw [List.getD_eq_getElem?_getD, List.getElem?_map, List.getElem?_range h]
  rfl
theorem lst_add (n m : Nat) (f : Nat → Int) : lst (n + m) f = lst n f ++ lst m (fun k => f (n + k)) := by
  unfold lst
  rw [List.range_add, List.map_append, List.map_map]
  rfl
theorem lst_congr {n : Nat} {f g : Nat → Int} (h : ∀ i, i < n → f i = g i) : lst n f = lst n g := by
  unfold lst
  exact List.map_congr_left (fun i hi => h i (List.mem_range.1 hi))
theorem lst_of (zs : List Int) : lst zs.length (HL.el zs) = zs :=
  HL.ext_el (lst_length _ _) (fun j hj => lst_el _ (by rwa [lst_length] at hj))
theorem lst_take {n k : Nat} (f : Nat → Int) (h : k ≤ n) : (lst n f).take k = lst k f := by
  obtain ⟨m, rfl⟩ : ∃ m, n = k + m := ⟨n - k, by omega⟩
  rw [lst_add, List.take_left' (lst_length k f)]
theorem lst_set {n i : Nat} (f : Nat → Int) (x : Int) (h : i < n) : (lst n f).set i x = lst n (fun k => if k = i then x else f k) := by
  refine HL.ext_el (by simp [lst_length]) (fun j hj => ?_)
  rw [List.length_set, lst_length] at hj
  rw [lst_el _ hj]
  unfold HL.el
  rw [List.getD_eq_getElem?_getD, List.getElem?_set]
  by_cases e : i = j
  · rw [if_pos e, if_pos (by rw [lst_length]; omega), if_pos e.symm]; rfl
  · rw [if_neg e, if_neg (fun h => e h.symm)]
    have := lst_el f hj
    unfold HL.el at this
    rw [List.getD_eq_getElem?_getD] at this
    exact this

section
variable {P : Program} {w w' : World} {base base' : Nat} {e : TypeId} {size : Nat} {v v' : Value} {n : Nat} {xs : List Value}

/-- An append leaves every row's head as it was. -/
theorem run_append_heads (t ty : TypeId) (i : TypeInfo) (z : Value) (bytes : Nat) (ht : P.underlying t = some (.slice e)) (hi : P.info? e = some i) (hz : i.zero = some z)
    (hsize : i.size = size) (hby : i.bytes = bytes) (hzs : z.cells.size = size) (hsz : 0 < size)
    (hown : w.ownsRow base e size v n xs)
    (a : Addr) (m c : Nat) (news : List Value) (hl : news.length = m * size) (hnews : ∀ j u, news[j]? = some u → w.cell? (a.add j) = some u) (h1 : ∀ u ∈ news, u.oneCell' = true)
    (h63 : n + m ≤ maxLen) (hbytes : (n + m) * bytes ≤ 140737488355328) (hbase : base ≤ w.heap.size)
    (h : (Builtin.append_ #[t, t] ty #[v, .slice (some a) m c]).run P w = .ok v' w') {u : Value} {k : Nat} {ys : List Value} (hk : u.ownBlock = v.ownBlock → k ≤ n) (hu : w.ownsRow base' e size u k ys) : w'.ownsRow base' e size u k ys := by
  obtain ⟨v2, w2, hr2, ho2, hg2, _⟩ := run_append_own (P := P) w base t ty e i z size bytes ht hi hz hsize hby hzs hsz v n xs hown a m c news hl hnews h1 h63 hbytes hbase
  rw [hr2] at h
  injection h with e1 e2
  subst e1 e2
  by_cases hne : u.ownBlock = v.ownBlock
  · have hkn := hk hne
    rcases hown.2 with ⟨rfl, rfl⟩ | ⟨g, cap, cur, rfl, hbg, hg, hnc, hcm, hcs, htake⟩
    · exact hu.kept hg2 (.inl hne)
    · by_cases hroom : n + m ≤ cap
      · subst hsize
        have hfit : n * i.size + news.length ≤ cur.size := by rw [hl, hcs, ← Nat.add_mul]; exact Nat.mul_le_mul_right _ hroom
        have hr := run_append_room (P := P) w t ty e i ht hi g n cap cur hg a m c news hl hnews h1 hroom hfit
        rw [hr] at hr2
        injection hr2 with _ e2
        subst e2
        rcases hu.2 with ⟨rfl, h0⟩ | ⟨g', cap', cur', rfl, hbg', hg', hnc', hcm', hcs', htake'⟩
        · exact ⟨hu.1, .inl ⟨rfl, h0⟩⟩
        · simp only [Value.ownBlock, Option.some.injEq] at hne
          subst hne
          rw [hg] at hg'
          injection hg' with hg'
          injection hg' with hc _ _
          subst hc
          refine ⟨hu.1, .inr ⟨g', cap', _, rfl, hbg', setRow_heap w g' cur _ e _ hg, hnc', hcm', ?_, ?_⟩⟩
          · rw [← hcs']
            simp only [List.size_toArray, List.length_append, List.length_take, List.length_drop, Array.length_toList]
            omega
          · have hle : k * i.size ≤ n * i.size := Nat.mul_le_mul_right _ hkn
            rw [List.append_assoc, List.take_append_of_le_length (by rw [List.length_take, Array.length_toList]; omega), List.take_take, Nat.min_eq_left hle]
            exact htake'
      · subst hsize
        subst hby
        have holds : ∀ j u, xs[j]? = some u → w.cell? ((⟨g, 0, none⟩ : Addr).add j) = some u := hown.cells (g := g) rfl
        have hsmall : n + m ≤ 9223372036854775807 := by simp only [maxLen] at h63; omega
        have hr := run_append_grow (P := P) w t ty e i z ht hi hz ⟨g, 0, none⟩ n cap xs hown.1 holds a m c news hl hnews (by omega) (by omega) (growslice_fits (by omega) hbytes)
        rw [hr] at hr2
        injection hr2 with _ e2
        subst e2
        exact (show w.drew.ownsRow base' e i.size u k ys from hu).alloc _
  · exact hu.kept hg2 (.inr hne)
end

/-- append(row, xs...) of ints: what else is left. -/
def AppI (w w' : World) (v : Value) (n : Nat) : Prop := ∀ (base' : Nat) (u : Value) (k : Nat) (ys : List Value), (u.ownBlock = v.ownBlock → k ≤ n) → w.ownsRow base' 3 1 u k ys → w'.ownsRow base' 3 1 u k ys

set_option maxRecDepth 100000 in
theorem append_heads {ops : Array Oper} {rest : List Oper} {o : Oper} {a : Act} {Q : Exit → Act → World → Prop} {w : World} (hgd : o.guard = none) (s x : Operand)
    (ho : o.op = .call { callee := .builtin .append, args := #[s, x], argTypes := #[22, 22] }) (base : Nat) (v : Value) (n : Nat) (xs : List Value) (hs : a.eval s = v) (hown : w.ownsRow base 3 1 v n xs)
    (p : Option Addr) (m c : Nat) (zs : List Int) (hx : a.eval x = .slice p m c) (hR : RdI w w.heap.size p m zs) (hm0 : 0 < m) (hsm : n + m ≤ 1000000) (hbase : base ≤ w.heap.size)
    (h : ∀ g cap w', w'.ownsRow base 3 1 (.slice (some ⟨g, 0, none⟩) (n + m) cap) (n + m) (xs ++ rowOf ncells zs) → w.grownBy w' v.ownBlock → AppI w w' v n → (v.ownBlock = some g ∨ g = w.heap.size) → wpList Tryz.prog ops Q rest (a.put o.dst (.slice (some ⟨g, 0, none⟩) (n + m) cap)) w') : wpList Tryz.prog ops Q (o :: rest) a w := by
  obtain ⟨i0, hi0, hz0, hz1, hz2⟩ := info_parts info_int
  have hz := hR.1
  have hlen : (rowOf ncells zs).length = m * 1 := by rw [rowOf_length ncells ncells_length, hz]
  obtain ⟨b, o', rfl, hlt, hc⟩ := hR.2 hm0
  have hnews : ∀ j u, (rowOf ncells zs)[j]? = some u → w.cell? ((⟨b, o', none⟩ : Addr).add j) = some u := by
    intro j u hu
    obtain ⟨hj, rfl⟩ := rowOf_ncells_get hu
    rw [add_at, ← hc j (by omega)]
  obtain ⟨g, cap, w', hr, h2, h3, h4, _⟩ := run_append_lies (P := Tryz.prog) w 22 o.type base 3 i0 (.int .i64 0) 1 8 Tryz.underlying22 hi0 hz0 hz1 hz2 rfl (by omega) v n xs hown ⟨b, o', none⟩ m c (rowOf ncells zs) hlen hnews rowOf_ncells_one hm0 (by unfold maxLen; omega) (by omega) hbase w.heap.size rfl
  refine wpList_plain hgd fun _ hK => ?_
  unfold Oper.wp execOp
  simp only [ho, resolve, invoke, builtin, Sem.run_bind, Sem.run_pure, Result.andThen_ok, List.map_toArray, List.map_cons, List.map_nil, hs, hx, hr]
  refine hK _ _ (h g cap w' h2 h3 (fun base' u k ys hk hu => ?_) h4)
  exact run_append_heads (P := Tryz.prog) 22 o.type i0 (.int .i64 0) 8 Tryz.underlying22 hi0 hz0 hz1 hz2 rfl (by omega) hown ⟨b, o', none⟩ m c (rowOf ncells zs) hlen hnews rowOf_ncells_one (by unfold maxLen; omega) (by omega) hbase hr hk hu
end Go.Proofs.YtedcpckocedcoaaGreat
