/- Merged texts: Open NDubL NPL0 NPL NPOpen NPC NPX GApp. -/
import Derived.Test.YthdpajgnigilhaaQ2
import Derived.ProofKit
import Derived.OpenShut
import Derived.ShutString
import Derived.ChangeOld
import Derived.Deep.Slices
import Derived.Deep.Fields
import Derived.Test.YthdpajgnigilhaaQ4
import Derived.Test.YthdpajgnigilhaaQ1
import Derived.Maps.Keyed
import Derived.Maps.Views
import Derived.Laws.AppendOwnNone
import Derived.Maps.AppendAt
import Derived.Deep.AppendLies
/- Arguments opened: a slice of things of several cells each reads as a list. -/
namespace Go.Proofs.Ythdpajgnigilhaa
open Go.ChangeShapes Go.WideShapes Go.ChangeAt Go.RowKit Go.Deep

section
variable {H : Type} {enc : TypeId × Value → H} {P : Program} {w : World}

/-- A slice whose elements each read by f. -/
theorem open_rows {α : Type} [Inhabited α] (f : α → List Value) {size : Nat} (hf : ∀ x, (f x).length = size) (hs : 0 < size) (good : α → Prop) {t e : TypeId} (ht : P.underlying t = some (.slice e)) (hC : P.cellsOf e = size)
    (hel : ∀ n cs' y, DataW.trod enc P w 0 (fun _ => true) true n e cs' = some y → ∃ x, cs' = f x ∧ good x) {fuel : Nat} {p : Option Addr} {len cap : Nat} {x : DataW H × List MemPlace}
    (h : DataW.trod enc P w 0 (fun _ => true) true fuel t [.slice p len cap] = some x) : ∃ zs, RdG f w w.heap.size p len zs ∧ ∀ z ∈ zs, good z := by
  rcases open_slice ht h with ⟨hcs, _⟩ | ⟨a, len', cap', m, n, D, Pl, hcs, _, hl, _, hm, _, hi⟩
  · injection hcs with hcs _
    injection hcs with h1 h2 h3
    subst h1 h2 h3
    exact ⟨[], RdG.nil, by simp⟩
  · injection hcs with hcs _
    injection hcs with h1 h2 h3
    subst h1 h2 h3
    simp only [if_true] at hm
    have hx : ∀ i, ∃ x, i < len → (w.cells? 0 (a.add (i * size)) size = some (f x) ∧ good x) := by
      intro i
      by_cases hlt : i < len
      · obtain ⟨cs', hc, ht'⟩ := hi i (by omega)
        obtain ⟨x, rfl, hg⟩ := hel _ _ _ ht'
        rw [hC] at hc
        exact ⟨x, fun _ => ⟨hc, hg⟩⟩
      · exact ⟨default, fun h => absurd h hlt⟩
    let X : Nat → α := fun i => Classical.choose (hx i)
    have hX : ∀ i, i < len → (w.cells? 0 (a.add (i * size)) size = some (f (X i)) ∧ good (X i)) := fun i => Classical.choose_spec (hx i)
    refine ⟨(List.range len).map X, ⟨by simp, fun hn => ?_⟩, ?_⟩
    · obtain ⟨b, o, sp⟩ := a
      obtain ⟨_, hl0, hc0⟩ := World.cells?_some (hX 0 hn).1
      have h0 := hc0 0 hs
      have hsome : ∃ u, (f (X 0))[0]? = some u := ⟨_, List.getElem?_eq_getElem (by omega)⟩
      obtain ⟨u0, hu0⟩ := hsome
      rw [hu0] at h0
      have hsp : sp = none := by simpa [Addr.add] using World.cell?_spot h0
      subst hsp
      have hb : b < w.heap.size := by have := cell_lt h0; simpa [Addr.add] using this
      refine ⟨b, o, rfl, hb, fun j u hu => ?_⟩
      have hj : j < len * size := by
        have := (List.getElem?_eq_some_iff.1 hu).1
        rw [rowOf_length f hf] at this
        simpa using this
      have hk : j / size < len := Nat.div_lt_of_lt_mul (by rw [Nat.mul_comm]; exact hj)
      have hr : j % size < size := Nat.mod_lt _ hs
      have hjj : j = j / size * size + j % size := by rw [Nat.mul_comm]; exact (Nat.div_add_mod j size).symm
      have e1 := rowOf_at f hf ((List.range len).map X) (j / size) (j % size) (by simpa using hk) hr
      rw [← hjj, hu] at e1
      have e2 : ((List.range len).map X).getD (j / size) default = X (j / size) := by
        rw [List.getD_eq_getElem?_getD, List.getElem?_map, List.getElem?_range hk]
        rfl
      rw [e2] at e1
      obtain ⟨_, _, hcc⟩ := World.cells?_some (hX _ hk).1
      have e3 := hcc (j % size) hr
      rw [add_at, add_at, ← e1] at e3
      rw [hjj, ← Nat.add_assoc]
      exact e3
    · intro z hz
      obtain ⟨i, hi', rfl⟩ := List.mem_map.1 hz
      exact (hX i (List.mem_range.1 hi')).2

/-- The cells of a struct of one-cell fields, each with its reading. -/
theorem open_fields {fs : Array Field} {e : TypeId} (he : P.underlying e = some (.struct fs)) (hone : oneCellFields P fs = true) {n : Nat} {cs : List Value} {y : DataW H × List MemPlace}
    (h : DataW.trod enc P w 0 (fun _ => true) true n e cs = some y) (hlen : cs.length = fs.size) :
    ∃ m, ∀ (j : Nat) (fd : Field), fs[j]? = some fd → ∃ v z, cs[j]? = some v ∧ DataW.trod enc P w 0 (fun _ => true) true m fd.type [v] = some z := by
  obtain ⟨ys, n', _, _, _, hyl, hf⟩ := DataW.trod_struct he h
  refine ⟨n', fun j fd hj => ?_⟩
  obtain ⟨ho, hk⟩ := hone_of hone j fd hj
  have hjl : j < fs.size := (Array.getElem?_eq_some_iff.1 hj).1
  have h1 := hf j fd hj
  rw [ho, hk] at h1
  have hd : (cs.drop j).take 1 = [cs[j]'(by omega)] := by
    rw [List.drop_eq_getElem_cons (by omega)]
    rfl
  rw [hd] at h1
  have hys : ys[j]? = some (ys[j]'(by omega)) := List.getElem?_eq_getElem (by omega)
  exact ⟨_, _, List.getElem?_eq_getElem (by omega), h1.trans hys⟩
end

end Go.Proofs.Ythdpajgnigilhaa

/- arboretumlaw27.NetDoubles: the plain law. -/
namespace Go.Proofs.Ythdpajgnigilhaa

theorem el_get (l : List Nd) (i : Nat) (h : i < l.length) : HL.el l i = l[i] := by simp [HL.el, List.getD, h]
theorem sorted_pw {l : List Nd} (h : SortedD l) : l.Pairwise (fun a b => wlt b a = false) := by
  rw [List.pairwise_iff_getElem]
  intro i j hi hj hij
  have := h i j hij hj
  rwa [el_get l i hi, el_get l j hj] at this

/-- Numbers rise: so there is but one order. -/
def Up (l : List Nd) : Prop := l.Pairwise (fun a b => a.sq < b.sq)
theorem Up.inj {l : List Nd} (h : Up l) {a b : Nd} (ha : a ∈ l) (hb : b ∈ l) (e : a.sq = b.sq) : a = b := by
  induction l with
  | nil => cases ha
  | cons x l ih =>
    obtain ⟨h1, h2⟩ := List.pairwise_cons.1 h
    rcases List.mem_cons.1 ha with rfl | ha
    · rcases List.mem_cons.1 hb with rfl | hb
      · rfl
      · have := h1 b hb; omega
    · rcases List.mem_cons.1 hb with rfl | hb
      · have := h1 a (by assumption); omega
      · exact ih h2 ha hb
theorem Up.nodup {l : List Nd} (h : Up l) : l.Nodup := List.Pairwise.imp (fun {a b} h e => by rw [e] at h; omega) h
/-- A sorted list of those of one time is they, in their order. -/
theorem up_sort {l ts : List Nd} (h : Up l) (hat : ∀ y ∈ l, y.at' = 10) (hp : ts.Perm l) (hs : SortedD ts) : ts = l := by
  refine List.Perm.eq_of_pairwise (le := fun a b => wlt b a = false) ?_ (sorted_pw hs) ?_ hp
  · intro a b ha hb h1 h2
    have ha' := hp.mem_iff.1 ha
    rw [wlt_false] at h1 h2
    have e1 := hat a ha'
    have e2 := hat b hb
    exact h.inj ha' hb (by omega)
  · refine List.Pairwise.imp_of_mem ?_ h
    intro a b ha hb hl
    rw [wlt_false]
    have e1 := hat a ha
    have e2 := hat b hb
    omega

/-- What n sends leave. -/
def sn (n : Nat) : List Nd := (List.range n).map (fun i : Nat => ⟨0, (i : Int), ByteArray.empty, 10, (i : Int) + 1⟩)
theorem sn_succ (n : Nat) : sn (n + 1) = sn n ++ [⟨0, (n : Int), ByteArray.empty, 10, (n : Int) + 1⟩] := by simp [sn, List.range_succ]
theorem sn_length (n : Nat) : (sn n).length = n := by simp [sn]
theorem sn_el (n k : Nat) (h : k < n) : HL.el (sn n) k = ⟨0, (k : Int), ByteArray.empty, 10, (k : Int) + 1⟩ := by
  rw [el_get _ _ (by rw [sn_length]; exact h)]
  simp [sn]
theorem sn_mem {n : Nat} {y : Nd} (h : y ∈ sn n) : ∃ i, i < n ∧ y = ⟨0, (i : Int), ByteArray.empty, 10, (i : Int) + 1⟩ := by
  simp only [sn, List.mem_map, List.mem_range] at h
  obtain ⟨i, hi, rfl⟩ := h
  exact ⟨i, hi, rfl⟩
theorem sn_up (n : Nat) : Up (sn n) := by
  induction n with
  | zero => exact List.Pairwise.nil
  | succ n ih =>
    rw [sn_succ]
    refine List.pairwise_append.2 ⟨ih, by simp, ?_⟩
    intro a ha b hb
    obtain ⟨i, hi, rfl⟩ := sn_mem ha
    obtain rfl : b = _ := by simpa using hb
    simp only
    omega
def toC (S : List Nd) (j : Nat) : Nat := S.countP (fun y => decide (y.to = (j : Int)))
theorem toC_append (S T : List Nd) (j : Nat) : toC (S ++ T) j = toC S j + toC T j := List.countP_append
theorem toC_one (x : Nd) (j : Nat) : toC [x] j = if x.to = (j : Int) then 1 else 0 := by
  by_cases h : x.to = (j : Int) <;> simp [toC, h]
theorem toC_cons (x : Nd) (S : List Nd) (j : Nat) : toC (x :: S) j = toC S j + if x.to = (j : Int) then 1 else 0 := by
  by_cases h : x.to = (j : Int) <;> simp [toC, h]
theorem toC_perm {S T : List Nd} (h : S.Perm T) (j : Nat) : toC S j = toC T j := h.countP_eq _
theorem toC_sn (n j : Nat) : toC (sn n) j = if j < n then 1 else 0 := by
  induction n with
  | zero => simp [sn, toC]
  | succ n ih =>
    rw [sn_succ, toC_append, ih, toC_one]
    by_cases h1 : j < n
    · rw [if_pos h1, if_neg (by simp only; omega), if_pos (by omega)]
    · by_cases h2 : j = n
      · subst h2; rw [if_neg h1, if_pos rfl, if_pos (by omega)]
      · rw [if_neg h1, if_neg (by simp only; omega), if_neg (by omega)]

/-- The one that was delayed. -/
def zD (n k : Nat) (by' : Int) : Nd := ⟨0, (k : Int), ByteArray.empty, 10 + by', (n : Int) + 1 + 1⟩
def wantD (k j : Nat) : Nat := if j = k then 2 else 1

structure DInv (n k : Nat) (by' : Int) (i : Nat) (S : List Nd) (seen : Nat → Nat) : Prop where
  len : S.length + i = n + 1
  at10 : ∀ y ∈ S, y.at' = 10 ∨ y = zD n k by'
  to : ∀ y ∈ S, ∃ j, j < n ∧ y.to = (j : Int)
  cnt : ∀ j, j < n → seen j + toC S j = wantD k j
  last : 0 < S.length → zD n k by' ∈ S ∨ by' = 0
  nd : S.Nodup

theorem DInv.start {n k : Nat} {by' : Int} (hk : k < n) {x : Nd} {S1 ts : List Nd} (hts : ts.Perm (sn n ++ [⟨0, (k : Int), ByteArray.empty, 10, (n : Int) + 1⟩])) (hsd : SortedD ts) (hx : x = HL.el ts k) (hp : (x :: S1).Perm (sn n ++ [⟨0, (k : Int), ByteArray.empty, 10, (n : Int) + 1⟩])) :
    x.fr = 0 ∧ x.to = (k : Int) ∧ x.da = ByteArray.empty ∧ x.at' = 10 ∧ DInv n k by' 0 (S1 ++ [zD n k by']) (fun _ => 0) := by
  have hu : Up (sn n ++ [⟨0, (k : Int), ByteArray.empty, 10, (n : Int) + 1⟩]) := by
    refine List.pairwise_append.2 ⟨sn_up n, by simp, ?_⟩
    intro a ha b hb
    obtain ⟨i, hi, rfl⟩ := sn_mem ha
    obtain rfl : b = _ := by simpa using hb
    simp only
    omega
  have hat : ∀ y ∈ sn n ++ [(⟨0, (k : Int), ByteArray.empty, 10, (n : Int) + 1⟩ : Nd)], y.at' = 10 ∧ (∃ j, j < n ∧ y.to = (j : Int)) ∧ y.sq ≤ n + 1 := by
    intro y hy
    rcases List.mem_append.1 hy with h | h
    · obtain ⟨i, hi, rfl⟩ := sn_mem h
      exact ⟨rfl, ⟨i, hi, rfl⟩, by simp only; omega⟩
    · obtain rfl : y = _ := by simpa using h
      exact ⟨rfl, ⟨k, hk, rfl⟩, by simp only; omega⟩
  have hte := up_sort hu (fun y hy => (hat y hy).1) hts hsd
  subst hte
  have hxe : x = ⟨0, (k : Int), ByteArray.empty, 10, (k : Int) + 1⟩ := by
    rw [hx, HL.el_append_left _ _ _ (by rw [sn_length]; exact hk), sn_el n k hk]
  subst hxe
  have hsub : ∀ y ∈ S1, y ∈ sn n ++ [(⟨0, (k : Int), ByteArray.empty, 10, (n : Int) + 1⟩ : Nd)] := fun y hy => hp.mem_iff.1 (List.mem_cons_of_mem _ hy)
  have hnd : S1.Nodup := (List.nodup_cons.1 (hp.nodup_iff.2 hu.nodup)).2
  refine ⟨rfl, rfl, rfl, rfl, ⟨?_, ?_, ?_, ?_, ?_, ?_⟩⟩
  · have := hp.length_eq
    simp only [List.length_cons, List.length_append, sn_length, List.length_nil] at *
    omega
  · intro y hy
    rcases List.mem_append.1 hy with h | h
    · exact .inl (hat y (hsub y h)).1
    · exact .inr (by simpa using h)
  · intro y hy
    rcases List.mem_append.1 hy with h | h
    · exact (hat y (hsub y h)).2.1
    · obtain rfl : y = _ := by simpa using h
      exact ⟨k, hk, rfl⟩
  · intro j hj
    have e := toC_perm hp j
    rw [toC_cons, toC_append, toC_sn, if_pos hj, toC_one] at e
    rw [toC_append, toC_one, wantD]
    simp only [zD] at *
    by_cases h : k = j
    · subst h
      simp at e ⊢
      omega
    · have h1 : ¬ (k : Int) = (j : Int) := by omega
      have h2 : ¬ j = k := by omega
      simp [h1, h2] at e ⊢
      omega
  · intro _
    exact .inl (List.mem_append_right _ (by simp))
  · refine List.nodup_append.2 ⟨hnd, by simp, ?_⟩
    intro a ha b hb e
    obtain rfl : b = _ := by simpa using hb
    subst e
    have := (hat _ (hsub _ ha)).2.2
    simp only [zD] at this
    omega

theorem DInv.step {n k : Nat} {by' : Int} {i : Nat} {S S' : List Nd} {seen : Nat → Nat} {x : Nd} (hby : 0 ≤ by') (h : DInv n k by' i S seen) (hx : x ∈ S) (hmin : ∀ y ∈ S, wlt y x = false) (hp : (x :: S').Perm S) :
    ∃ j, j < n ∧ x.to = (j : Int) ∧ x.at' ≤ 10 + by' ∧ (0 < by' → i = n → j = k) ∧ DInv n k by' (i + 1) S' (fun a => if a = j then seen a + 1 else seen a) := by
  obtain ⟨j, hj, hto⟩ := h.to x hx
  have hlen := hp.length_eq
  rw [List.length_cons] at hlen
  have hL := h.len
  have hsub : ∀ y ∈ S', y ∈ S := fun y hy => hp.mem_iff.1 (List.mem_cons_of_mem _ hy)
  have hnd := List.nodup_cons.1 (hp.nodup_iff.2 h.nd)
  refine ⟨j, hj, hto, ?_, ?_, ⟨by omega, fun y hy => h.at10 y (hsub y hy), fun y hy => h.to y (hsub y hy), ?_, ?_, hnd.2⟩⟩
  · rcases h.at10 x hx with e | e
    · omega
    · rw [e]; simp [zD]
  · intro hb hi
    have hS' : S' = [] := List.eq_nil_of_length_eq_zero (by omega)
    subst hS'
    rcases h.last (by omega) with hz | hz
    · have := hp.mem_iff.2 hz
      obtain e : zD n k by' = x := by simpa using this
      rw [← e] at hto
      simp only [zD] at hto
      omega
    · omega
  · intro a ha
    have e := toC_perm hp a
    rw [toC_cons] at e
    have c := h.cnt a ha
    by_cases haj : a = j
    · subst haj
      rw [if_pos rfl]
      rw [if_pos hto] at e
      omega
    · rw [if_neg haj]
      rw [if_neg (by omega)] at e
      omega
  · intro h0
    rcases h.last (by omega) with hz | hz
    · rcases List.mem_cons.1 (hp.mem_iff.2 hz) with e | e
      · right
        obtain ⟨y, S2, rfl⟩ := List.exists_cons_of_length_pos h0
        have hy := hsub y (by simp)
        rcases h.at10 y hy with ey | ey
        · have hm := hmin y hy
          rw [wlt_false, ← e] at hm
          simp only [zD] at hm
          omega
        · exact absurd (by rw [← e, ← ey]; simp) hnd.1
      · exact .inl e
    · exact .inr hz
end Go.Proofs.Ythdpajgnigilhaa

/- Chapter 27's reference: where a packet is put in; what sorted lists of packets are. Plain facts. -/
namespace Go.Proofs.Ythdpajgnigilhaa

/-- A packet of the reference, and when it is due. -/
structure St where
  at' : Int
  fr : Int
  to : Int
  da : ByteArray
deriving Inhabited
def stOf (x : Nd) : St := ⟨x.at', x.fr, x.to, x.da⟩
def scells (x : St) : List Value := [.int .i64 x.at', .int .i64 x.fr, .int .i64 x.to, .string x.da]
theorem scells_length (x : St) : (scells x).length = 4 := rfl
def insS (L : List St) (x : St) : List St := L.takeWhile (fun y => decide (y.at' ≤ x.at')) ++ x :: L.dropWhile (fun y => decide (y.at' ≤ x.at'))
def insN (S : List Nd) (x : Nd) : List Nd := S.takeWhile (fun y => decide (y.at' ≤ x.at')) ++ x :: S.dropWhile (fun y => decide (y.at' ≤ x.at'))

theorem take_while_at {α : Type} [Inhabited α] (f : α → Bool) : ∀ (L : List α) (k : Nat), k ≤ L.length → (∀ i, i < k → f (HL.el L i) = true) → (k < L.length → f (HL.el L k) = false) → L.takeWhile f = L.take k ∧ L.dropWhile f = L.drop k
  | [], k, hk, _, _ => by simp
  | x :: L, 0, _, _, h => by
    have h0 : f x = false := h (by simp)
    simp [h0]
  | x :: L, k + 1, hk, h1, h2 => by
    have h0 : f x = true := h1 0 (by omega)
    have ih := take_while_at f L k (by simpa using hk) (fun i hi => h1 (i + 1) (by omega)) (fun hl => h2 (by simpa using hl))
    simp [h0, ih.1, ih.2]

theorem insS_at {L : List St} {x : St} {k : Nat} (hk : k ≤ L.length) (h1 : ∀ i, i < k → (HL.el L i).at' ≤ x.at') (h2 : k < L.length → ¬ (HL.el L k).at' ≤ x.at') : insS L x = L.take k ++ [x] ++ L.drop k := by
  obtain ⟨e1, e2⟩ := take_while_at (fun y : St => decide (y.at' ≤ x.at')) L k hk (fun i hi => decide_eq_true (h1 i hi)) (fun hl => decide_eq_false (h2 hl))
  unfold insS
  rw [e1, e2]
  simp
theorem insS_length (L : List St) (x : St) : (insS L x).length = L.length + 1 := by
  unfold insS
  have := congrArg List.length (List.takeWhile_append_dropWhile (p := fun y : St => decide (y.at' ≤ x.at')) (l := L))
  rw [List.length_append] at this
  rw [List.length_append, List.length_cons]
  omega
theorem map_insN (S : List Nd) (x : Nd) : (insN S x).map stOf = insS (S.map stOf) (stOf x) := by
  unfold insN insS
  rw [List.map_append, List.map_cons, List.takeWhile_map, List.dropWhile_map]
  rfl
theorem insN_perm (S : List Nd) (x : Nd) : (insN S x).Perm (S ++ [x]) := by
  unfold insN
  refine List.perm_middle.trans ?_
  rw [List.takeWhile_append_dropWhile]
  exact (List.perm_append_singleton x S).symm
theorem insN_length (S : List Nd) (x : Nd) : (insN S x).length = S.length + 1 := by
  rw [(insN_perm S x).length_eq, List.length_append, List.length_singleton]

/-- What a net has, in its order: each packet bears a number of its own, up to c. -/
structure NS (S : List Nd) (c : Int) : Prop where
  sorted : S.Pairwise fun a b => wlt b a = false
  le : ∀ a ∈ S, a.sq ≤ c
  one : ∀ a ∈ S, ∀ b ∈ S, a.sq = b.sq → a = b
  nd : S.Nodup

theorem NS.nil (c : Int) : NS [] c := ⟨List.Pairwise.nil, by simp, by simp, List.nodup_nil⟩
theorem NS.mono {S : List Nd} {c d : Int} (h : NS S c) (hd : c ≤ d) : NS S d := ⟨h.sorted, fun a ha => Int.le_trans (h.le a ha) hd, h.one, h.nd⟩
theorem NS.sub {S U : List Nd} {c : Int} (h : NS S c) (hs : U.Sublist S) : NS U c :=
  ⟨h.sorted.sublist hs, fun a ha => h.le a (hs.subset ha), fun a ha b hb => h.one a (hs.subset ha) b (hs.subset hb), h.nd.sublist hs⟩
theorem NS.ins {S : List Nd} {c : Int} {x : Nd} (h : NS S c) (hx : x.sq = c + 1) : NS (insN S x) (c + 1) := by
  have hm : ∀ a, a ∈ insN S x ↔ a ∈ S ∨ a = x := fun a => by rw [(insN_perm S x).mem_iff]; simp
  refine ⟨?_, fun a ha => ?_, fun a ha b hb e => ?_, ?_⟩
  · unfold insN
    have hs := h.sorted
    have ht : ∀ a ∈ S.takeWhile (fun y => decide (y.at' ≤ x.at')), a.at' ≤ x.at' := fun a ha => by
      have := List.all_eq_true.1 (List.all_takeWhile (p := fun y : Nd => decide (y.at' ≤ x.at')) (l := S)) a ha
      exact of_decide_eq_true this
    have hd : ∀ b ∈ S.dropWhile (fun y => decide (y.at' ≤ x.at')), ¬ b.at' ≤ x.at' := by
      intro b hb
      have hsd : (S.dropWhile (fun y => decide (y.at' ≤ x.at'))).Pairwise fun a b => wlt b a = false := hs.sublist (List.dropWhile_sublist _)
      cases hc : S.dropWhile (fun y => decide (y.at' ≤ x.at')) with
      | nil => rw [hc] at hb; cases hb
      | cons d D =>
        have h0 : ¬ d.at' ≤ x.at' := by
          have := List.head?_dropWhile_not (fun y : Nd => decide (y.at' ≤ x.at')) S
          rw [hc] at this
          simpa using this
        rw [hc] at hb hsd
        rcases List.mem_cons.1 hb with rfl | hb
        · exact h0
        · have h1 := (List.pairwise_cons.1 hsd).1 b hb
          rw [wlt_false] at h1
          omega
    refine List.pairwise_append.2 ⟨hs.sublist (List.takeWhile_sublist _), List.pairwise_cons.2 ⟨fun b hb => ?_, hs.sublist (List.dropWhile_sublist _)⟩, fun a ha b hb => ?_⟩
    · have h1 := hd b hb
      rw [wlt_false]
      omega
    · have h1 := ht a ha
      have h2 := h.le a ((List.takeWhile_sublist _).subset ha)
      rcases List.mem_cons.1 hb with rfl | hb
      · rw [wlt_false]
        omega
      · have h3 := hd b hb
        rw [wlt_false]
        omega
  · rcases (hm a).1 ha with h1 | h1
    · have := h.le a h1; omega
    · rw [h1]; omega
  · rcases (hm a).1 ha with h1 | h1
    · rcases (hm b).1 hb with h2 | h2
      · exact h.one a h1 b h2 e
      · have := h.le a h1
        rw [h2] at e
        omega
    · rcases (hm b).1 hb with h2 | h2
      · have := h.le b h2
        rw [h1] at e
        omega
      · rw [h1, h2]
  · refine (insN_perm S x).nodup_iff.2 ?_
    rw [List.nodup_append]
    refine ⟨h.nd, by simp, fun a ha b hb => ?_⟩
    obtain rfl : b = x := by simpa using hb
    intro e
    have := h.le a ha
    rw [e] at this
    omega

/-- What is left behind one that was taken at its place. -/
theorem NS.cut_at {S U : List Nd} {c : Int} {k : Nat} (_h : NS S c) (hk : k < S.length) (hp : (HL.el S k :: U).Perm S) : U.Perm (S.take k ++ S.drop (k + 1)) := by
  have hsp : S = S.take k ++ HL.el S k :: S.drop (k + 1) := by
    rw [show HL.el S k = S[k] by simp [HL.el, List.getD, hk], ← List.drop_eq_getElem_cons hk, List.take_append_drop]
  have h1 : (HL.el S k :: U).Perm (HL.el S k :: (S.take k ++ S.drop (k + 1))) := by
    refine hp.trans ?_
    have h2 : (S.take k ++ HL.el S k :: S.drop (k + 1)).Perm (HL.el S k :: (S.take k ++ S.drop (k + 1))) := List.perm_middle
    rw [← hsp] at h2
    exact h2
  exact List.Perm.cons_inv h1
theorem cut_sub {α : Type} (S : List α) (k : Nat) : (S.take k ++ S.drop (k + 1)).Sublist S := by
  have : (S.take k ++ S.drop (k + 1)).Sublist (S.take k ++ S.drop k) := by
    refine List.Sublist.append (List.Sublist.refl _) ?_
    rw [← List.drop_drop]
    exact List.drop_sublist _ _
  rwa [List.take_append_drop] at this
theorem cut_length {α : Type} (S : List α) (k : Nat) (hk : k < S.length) : (S.take k ++ S.drop (k + 1)).length + 1 = S.length := by
  rw [List.length_append, List.length_take, List.length_drop]; omega

/-- The least one stands first. -/
theorem NS.first {S : List Nd} {c : Int} {x : Nd} (h : NS S c) (h0 : 0 < S.length) (hx : x ∈ S) (hm : ∀ y ∈ S, wlt y x = false) : x = HL.el S 0 := by
  cases S with
  | nil => simp at h0
  | cons d D =>
    show x = d
    rcases List.mem_cons.1 hx with rfl | hx'
    · rfl
    · have h1 := (List.pairwise_cons.1 h.sorted).1 x hx'
      have h2 := hm d (by simp)
      rw [wlt_false] at h1 h2
      exact h.one x hx d (by simp) (by omega)

/-- Two ends that are cut. -/
def lo (a b : Int) : Int := min a b
def hi (a b : Int) : Int := max a b
def isCut (C : List (Int × Int)) (a b : Int) : Bool := C.any (fun c => c.1 == lo a b && c.2 == hi a b)
def cutC (C : List (Int × Int)) (a b : Int) (on : Bool) : List (Int × Int) :=
  (C.filter fun c => !(c.1 == lo a b && c.2 == hi a b)) ++ if on then [(lo a b, hi a b)] else []
theorem isCut_cutC (C : List (Int × Int)) (a b x y : Int) (on : Bool) : isCut (cutC C a b on) x y = if lo x y = lo a b ∧ hi x y = hi a b then on else isCut C x y := by
  unfold isCut cutC
  rw [List.any_append]
  by_cases h : lo x y = lo a b ∧ hi x y = hi a b
  · rw [if_pos h, h.1, h.2]
    have e1 : (C.filter fun c => !(c.1 == lo a b && c.2 == hi a b)).any (fun c => c.1 == lo a b && c.2 == hi a b) = false := by
      rw [List.any_eq_false]
      intro c hc
      have := (List.mem_filter.1 hc).2
      rw [Bool.not_eq_true'] at this
      rw [this]; simp
    rw [e1, Bool.false_or]
    cases on <;> simp
  · rw [if_neg h]
    have e2 : (if on then [(lo a b, hi a b)] else []).any (fun c => c.1 == lo x y && c.2 == hi x y) = false := by
      cases on
      · rfl
      · simp only [if_true, List.any_cons, List.any_nil, Bool.or_false]
        rw [Bool.eq_false_iff]
        intro h9
        rw [Bool.and_eq_true, beq_iff_eq, beq_iff_eq] at h9
        exact h ⟨h9.1.symm, h9.2.symm⟩
    rw [e2, Bool.or_false, List.any_filter]
    congr 1
    funext c
    by_cases h1 : (c.1 == lo x y && c.2 == hi x y) = true
    · rw [h1, Bool.and_true]
      rw [Bool.and_eq_true, beq_iff_eq, beq_iff_eq] at h1
      have : (c.1 == lo a b && c.2 == hi a b) = false := by
        rw [Bool.eq_false_iff]
        intro h9
        rw [Bool.and_eq_true, beq_iff_eq, beq_iff_eq] at h9
        exact h ⟨by omega, by omega⟩
      rw [this]; rfl
    · rw [Bool.not_eq_true] at h1
      rw [h1, Bool.and_false]
theorem cutC_length (C : List (Int × Int)) (a b : Int) (on : Bool) : (cutC C a b on).length ≤ C.length + 1 := by
  unfold cutC
  have := List.length_filter_le (fun c : Int × Int => !(c.1 == lo a b && c.2 == hi a b)) C
  rw [List.length_append]
  have h2 : (if on = true then [(lo a b, hi a b)] else []).length ≤ 1 := by cases on <;> simp
  omega

end Go.Proofs.Ythdpajgnigilhaa

/- Chapter 27: lists that are sorted, and what sends leave. Plain facts. -/
namespace Go.Proofs.Ythdpajgnigilhaa
/-- Another list of the same packets that is sorted is the same list. -/
theorem NS.uniq {S U : List Nd} {c : Int} (h : NS S c) (hU : SortedD U) (hp : U.Perm S) : U = S := by
  refine List.Perm.eq_of_pairwise (le := fun a b => wlt b a = false) ?_ (sorted_pw hU) h.sorted hp
  intro a b ha hb h3 h4
  rw [wlt_false] at h3 h4
  exact h.one a (hp.subset ha) b hb (by omega)
/-- What many sends leave, one by one. -/
def sendN (cut : Int → Int → Bool) (at' : Int) (S : List Nd) (c : Int) (ps : List Pk) : List Nd × Int :=
  ps.foldl (fun a x => if cut x.fr x.to || decide (600 ≤ a.1.length) then a else (insN a.1 ⟨x.fr, x.to, x.da, at', a.2 + 1⟩, a.2 + 1)) (S, c)
theorem sendN_snoc (cut : Int → Int → Bool) (at' : Int) (S : List Nd) (c : Int) (ps : List Pk) (x : Pk) :
    sendN cut at' S c (ps ++ [x]) = if cut x.fr x.to || decide (600 ≤ (sendN cut at' S c ps).1.length) then sendN cut at' S c ps else (insN (sendN cut at' S c ps).1 ⟨x.fr, x.to, x.da, at', (sendN cut at' S c ps).2 + 1⟩, (sendN cut at' S c ps).2 + 1) := by
  simp [sendN, List.foldl_append]
theorem take_snoc {α : Type} [Inhabited α] {ps : List α} {k : Nat} (hk : k < ps.length) : ps.take (k + 1) = ps.take k ++ [HL.el ps k] := by
  have e : HL.el ps k = ps[k] := by simp [HL.el, List.getD, hk]
  rw [e, List.take_add_one, List.getElem?_eq_getElem hk]
  rfl
theorem sendN_acc {cut : Int → Int → Bool} {at' : Int} {S : List Nd} {c : Int} {ps : List Pk} : ∀ k : Nat, k ≤ ps.length →
    (sendN cut at' S c (ps.take k)).1.Perm (S ++ accept cut at' S.length c (ps.take k)) ∧ (sendN cut at' S c (ps.take k)).2 = c + (accept cut at' S.length c (ps.take k)).length
  | 0, _ => by simp [sendN, accept]
  | k + 1, hk => by
    obtain ⟨ih1, ih2⟩ := sendN_acc (cut := cut) (at' := at') (S := S) (c := c) (ps := ps) k (by omega)
    have hl := ih1.length_eq
    rw [List.length_append] at hl
    rw [take_snoc (by omega), sendN_snoc, accept_snoc, hl]
    split
    · exact ⟨ih1, ih2⟩
    · refine ⟨?_, ?_⟩
      · refine (insN_perm _ _).trans ?_
        rw [← List.append_assoc, ih2]
        exact ih1.append_right _
      · rw [List.length_append, List.length_singleton, ih2]; omega
theorem sendN_ns {cut : Int → Int → Bool} {at' : Int} {S : List Nd} {c : Int} (h : NS S c) {ps : List Pk} : ∀ k : Nat, k ≤ ps.length → NS (sendN cut at' S c (ps.take k)).1 (sendN cut at' S c (ps.take k)).2
  | 0, _ => by simpa [sendN] using h
  | k + 1, hk => by
    have ih := sendN_ns (cut := cut) (at' := at') h (ps := ps) k (by omega)
    rw [take_snoc (by omega), sendN_snoc]
    split
    · exact ih
    · exact ih.ins rfl
theorem acc_le {cut : Int → Int → Bool} {at' : Int} {n0 : Nat} {c : Int} {ps : List Pk} : ∀ k : Nat, k ≤ ps.length → (accept cut at' n0 c (ps.take k)).length ≤ k
  | 0, _ => by simp [accept]
  | k + 1, hk => by
    have ih := acc_le (cut := cut) (at' := at') (n0 := n0) (c := c) (ps := ps) k (by omega)
    rw [take_snoc (by omega), accept_snoc]
    split
    · omega
    · rw [List.length_append, List.length_singleton]; omega
theorem sendN_le {cut : Int → Int → Bool} {at' : Int} {S : List Nd} {c : Int} {ps : List Pk} : ∀ k : Nat, k ≤ ps.length → S.length ≤ 600 → (sendN cut at' S c (ps.take k)).1.length ≤ 600
  | 0, _, h => by simpa [sendN] using h
  | k + 1, hk, h => by
    have ih := sendN_le (cut := cut) (at' := at') (S := S) (c := c) (ps := ps) k (by omega) h
    rw [take_snoc (by omega), sendN_snoc]
    split
    · exact ih
    · rename_i hc
      simp only [Bool.or_eq_true, decide_eq_true_eq, not_or] at hc
      rw [insN_length]; omega
end Go.Proofs.Ythdpajgnigilhaa

/- NetPlays' argument: a slice of steps, each with a slice of packets. -/
namespace Go.Proofs.Ythdpajgnigilhaa
open Go.ChangeShapes Go.WideShapes Go.ChangeAt Go.RowKit Go.Deep

abbrev i64ok (n : Int) : Prop := (Lit.int .i64 n).wf = true
def pkok (x : Pk) : Prop := i64ok x.fr ∧ i64ok x.to
theorem rd_le {n : Int} (h : i64ok n) : -9223372036854775808 ≤ n ∧ n ≤ 9223372036854775807 := by
  have h1 := of_decide_eq_true (Bool.and_eq_true_iff.1 h).1
  have h2 := of_decide_eq_true (Bool.and_eq_true_iff.1 h).2
  have e1 : IntKind.min .i64 = -9223372036854775808 := by decide
  have e : IntKind.max .i64 = 9223372036854775807 := by decide
  rw [e] at h2
  rw [e1] at h1
  exact ⟨h1, h2⟩
theorem ok_of {n : Int} (h : -9223372036854775808 ≤ n ∧ n ≤ 9223372036854775807) : i64ok n := by
  have e1 : IntKind.min .i64 = -9223372036854775808 := by decide
  have e : IntKind.max .i64 = 9223372036854775807 := by decide
  exact Bool.and_eq_true_iff.2 ⟨decide_eq_true (by rw [e1]; exact h.1), decide_eq_true (by rw [e]; exact h.2)⟩

/-- A step. -/
structure NtOp where
  k : Int
  a : Int
  b : Int
  p : Option Addr
  n : Nat
  c : Nat
  zs : List Pk
instance : Inhabited NtOp := ⟨⟨0, 0, 0, none, 0, 0, []⟩⟩
def noc (x : NtOp) : List Value := [.int .i64 x.k, .int .i64 x.a, .int .i64 x.b, .slice x.p x.n x.c]
theorem noc_length (x : NtOp) : (noc x).length = 4 := rfl
def nok (w : World) (x : NtOp) : Prop := i64ok x.a ∧ i64ok x.b ∧ RdG pcells w w.heap.size x.p x.n x.zs ∧ (x.p = none → x.c = 0) ∧ ∀ z ∈ x.zs, pkok z

theorem three_of {l : List Value} (h : l.length = 3) : ∃ a b c, l = [a, b, c] := by
  match l, h with
  | [a, b, c], _ => exact ⟨a, b, c, rfl⟩
theorem four_of {l : List Value} (h : l.length = 4) : ∃ a b c d, l = [a, b, c, d] := by
  match l, h with
  | [a, b, c, d], _ => exact ⟨a, b, c, d, rfl⟩

set_option maxRecDepth 100000 in
theorem elem_pk {H : Type} {enc : TypeId × Value → H} {w : World} : ∀ n cs' y, DataW.trod enc Try.prog w 0 (fun _ => true) true n 34 cs' = some y → ∃ x : Pk, cs' = pcells x ∧ pkok x := by
  intro n cs' y h
  have hlen : cs'.length = 3 := by
    obtain ⟨_, _, _, _, hl, _, _⟩ := DataW.trod_struct Try.underlying34 h
    exact hl
  obtain ⟨m, hf⟩ := open_fields Try.underlying34 (by kernel_rfl) h hlen
  obtain ⟨a, b, c, rfl⟩ := three_of hlen
  obtain ⟨v0, z0, e0, t0⟩ := hf 0 _ rfl
  obtain ⟨v1, z1, e1, t1⟩ := hf 1 _ rfl
  obtain ⟨v2, z2, e2, t2⟩ := hf 2 _ rfl
  simp only [List.getElem?_cons_zero, List.getElem?_cons_succ, Option.some.injEq] at e0 e1 e2
  subst e0 e1 e2
  obtain ⟨x0, c0, _, w0⟩ := DataW.trod_int Try.underlying3 t0
  obtain ⟨x1, c1, _, w1⟩ := DataW.trod_int Try.underlying3 t1
  obtain ⟨x2, c2, _, w2⟩ := DataW.trod_string Try.underlying9 t2
  injection c0 with c0 _
  injection c1 with c1 _
  injection c2 with c2 _
  subst c0 c1 c2
  exact ⟨⟨x0, x1, x2⟩, rfl, w0, w1⟩

set_option maxRecDepth 100000 in
theorem open_pks {H : Type} {enc : TypeId × Value → H} {w : World} {fuel : Nat} {p : Option Addr} {len cap : Nat} {x : DataW H × List MemPlace}
    (h : DataW.trod enc Try.prog w 0 (fun _ => true) true fuel 26 [.slice p len cap] = some x) : ∃ zs : List Pk, RdG pcells w w.heap.size p len zs ∧ ∀ z ∈ zs, pkok z :=
  open_rows pcells pcells_length (by omega) pkok Try.underlying26 (by kernel_rfl) elem_pk h

set_option maxRecDepth 100000 in
theorem elem_nop {H : Type} {enc : TypeId × Value → H} {w : World} : ∀ n cs' y, DataW.trod enc Try.prog w 0 (fun _ => true) true n 53 cs' = some y → ∃ x : NtOp, cs' = noc x ∧ nok w x := by
  intro n cs' y h
  have hlen : cs'.length = 4 := by
    obtain ⟨_, _, _, _, hl, _, _⟩ := DataW.trod_struct Try.underlying53 h
    exact hl
  obtain ⟨m, hf⟩ := open_fields Try.underlying53 (by kernel_rfl) h hlen
  obtain ⟨a, b, c, d, rfl⟩ := four_of hlen
  obtain ⟨v0, z0, e0, t0⟩ := hf 0 _ rfl
  obtain ⟨v1, z1, e1, t1⟩ := hf 1 _ rfl
  obtain ⟨v2, z2, e2, t2⟩ := hf 2 _ rfl
  obtain ⟨v3, z3, e3, t3⟩ := hf 3 _ rfl
  simp only [List.getElem?_cons_zero, List.getElem?_cons_succ, Option.some.injEq] at e0 e1 e2 e3
  subst e0 e1 e2 e3
  obtain ⟨x0, c0, _, _⟩ := DataW.trod_int Try.underlying3 t0
  obtain ⟨x1, c1, _, w1⟩ := DataW.trod_int Try.underlying3 t1
  obtain ⟨x2, c2, _, w2⟩ := DataW.trod_int Try.underlying3 t2
  injection c0 with c0 _
  injection c1 with c1 _
  injection c2 with c2 _
  subst c0 c1 c2
  obtain ⟨p, len, cap, rfl, hc⟩ := (by
    rcases open_slice Try.underlying26 t3 with ⟨hcs, _⟩ | ⟨a, len', cap', m', n', D, Pl, hcs, _⟩
    · injection hcs with hcs _
      exact ⟨none, 0, 0, hcs, fun _ => rfl⟩
    · injection hcs with hcs _
      exact ⟨some a, len', cap', hcs, fun h => by cases h⟩ : ∃ p len cap, d = .slice p len cap ∧ (p = none → cap = 0))
  obtain ⟨zs, hr, hz⟩ := open_pks t3
  exact ⟨⟨x0, x1, x2, p, len, cap, zs⟩, rfl, w1, w2, hr, hc, hz⟩

set_option maxRecDepth 100000 in
theorem open_nops {H : Type} {enc : TypeId × Value → H} {w : World} {fuel : Nat} {p : Option Addr} {len cap : Nat} {x : DataW H × List MemPlace}
    (h : DataW.trod enc Try.prog w 0 (fun _ => true) true fuel 40 [.slice p len cap] = some x) : ∃ zs : List NtOp, RdG noc w w.heap.size p len zs ∧ ∀ z ∈ zs, nok w z :=
  open_rows noc noc_length (by omega) (nok w) Try.underlying40 (by kernel_rfl) elem_nop h
end Go.Proofs.Ythdpajgnigilhaa

/- net's Net: Cut of any two ends. -/
namespace Go.Proofs.Ythdpajgnigilhaa
open Go.RowKit Go.Conc Go.Maps

def pairL (x y : Int) : Lit := .string (keyBytes [.int .i64 x, .int .i64 y])
set_option maxRecDepth 100000 in
theorem pair_key (x y : Int) (hx : i64ok x) (hy : i64ok y) : keyOf Try.prog 70 (.agg #[.int .i64 x, .int .i64 y]) = some (pairL x y) := by
  have k1 : Try.prog.keyType 70 = true := by kernel_rfl
  have k2 : (Value.agg #[.int .i64 x, .int .i64 y]).formed Try.prog 70 = true := by kernel_rfl
  have c1 : Try.prog.cellsOf 70 = 2 := by kernel_rfl
  have c2 : Try.prog.cellsOf 3 = 1 := by kernel_rfl
  have k3 : ∀ m, Try.prog.keyLits (m + 2) 70 (Value.agg #[.int .i64 x, .int .i64 y]).cells.toList = some [.int .i64 x, .int .i64 y] := by
    intro m
    simp [Program.keyLits, Value.cells, Try.underlying70, Try.underlying3, hx, hy, c1, c2]
  obtain ⟨m, hm⟩ : ∃ m, Try.prog.types.size + 1 = m + 2 := ⟨Try.prog.types.size - 1, by
    have : decide (1 ≤ Try.prog.types.size) = true := by kernel_rfl
    have := of_decide_eq_true this
    omega⟩
  unfold keyOf
  rw [Try.underlying70]
  simp only [k1, k2, Bool.and_self, if_true]
  rw [hm, k3]
  rfl
theorem pairL_inj {x y x' y' : Int} (hx : i64ok x) (hy : i64ok y) (hx' : i64ok x') (hy' : i64ok y') (h : pairL x y = pairL x' y') : x = x' ∧ y = y' := by
  have h1 := pair_key x y hx hy
  have h2 := pair_key x' y' hx' hy'
  rw [h] at h1
  have e := lawP.inj h1 h2
  injection e with e
  have e := congrArg Array.toList e
  simp at e
  exact e

/-- The map in block mb holds just the pairs of R. -/
def PairD (D : DU) (R : Int → Int → Bool) : Prop := Tidy D ∧ ∀ x y, i64ok x → i64ok y → Maps.has D (pairL x y) = R x y
def cutR (C : List (Int × Int)) (x y : Int) : Bool := C.any (fun c => c.1 == x && c.2 == y)
theorem PairD.nil : PairD (.map []) (cutR []) := ⟨⟨[], rfl, List.Pairwise.nil⟩, fun _ _ _ _ => rfl⟩
theorem lo_ok {a b : Int} (ha : i64ok a) (hb : i64ok b) : i64ok (lo a b) := by
  unfold lo
  rcases Int.le_total a b with h | h
  · rw [Int.min_eq_left h]; exact ha
  · rw [Int.min_eq_right h]; exact hb
theorem hi_ok {a b : Int} (ha : i64ok a) (hb : i64ok b) : i64ok (hi a b) := by
  unfold hi
  rcases Int.le_total a b with h | h
  · rw [Int.max_eq_right h]; exact hb
  · rw [Int.max_eq_left h]; exact ha
theorem PairD.del {D : DU} {R R' : Int → Int → Bool} (h : PairD D R) {a b : Int} (ha : i64ok a) (hb : i64ok b) (hR : ∀ x y, R' x y = if x = a ∧ y = b then false else R x y) : PairD (D.del (pairL a b)) R' := by
  refine ⟨h.1.del _, fun x y hx hy => ?_⟩
  rw [hR]
  by_cases e : x = a ∧ y = b
  · rw [if_pos e, e.1, e.2, has_del_same]
  · rw [if_neg e, has_del_other (fun e2 => e (pairL_inj hx hy ha hb e2)), h.2 x y hx hy]
theorem PairD.put {D : DU} {R R' : Int → Int → Bool} (h : PairD D R) {a b : Int} (ha : i64ok a) (hb : i64ok b) (hR : ∀ x y, R' x y = if x = a ∧ y = b then true else R x y) (v : DU) : PairD (D.put (pairL a b) v) R' := by
  have hk := lawP.key (pair_key a b ha hb)
  refine ⟨h.1.put hk _, fun x y hx hy => ?_⟩
  rw [hR]
  by_cases e : x = a ∧ y = b
  · rw [if_pos e, e.1, e.2, has_put_same h.1.isMap hk]
  · rw [if_neg e, has_put_other (fun e2 => e (pairL_inj hx hy ha hb e2)), h.2 x y hx hy]

/-- What is cut: C, in the map cu (block m). -/
def CutOk (cu : Value) (m : Option Nat) (ob : Obj) (B : Nat) (C : List (Int × Int)) : Prop :=
  (cu = .map none ∧ m = none ∧ C = []) ∨ ∃ mb D, cu = .map (some mb) ∧ m = some mb ∧ (∀ W, CutW (some mb) ob W → ∃ n, n ≤ B ∧ W.ownsMap Try.prog 70 unitElem mb n D) ∧ PairD D (cutR C)
theorem CutOk.look {cu : Value} {m : Option Nat} {ob : Obj} {B : Nat} {C : List (Int × Int)} (h : CutOk cu m ob B C) {x y : Int} (hx : i64ok x) (hy : i64ok y) (W : World) (hW : CutW m ob W) : look cu x y (isCut C x y) W := by
  rcases h with ⟨rfl, rfl, rfl⟩ | ⟨mb, D, rfl, rfl, ho, hD⟩
  · exact look_nil x y W
  · obtain ⟨n, _, ho⟩ := ho W hW
    obtain ⟨v, ps, hr, hv⟩ := ho.look_ok lawP Try.underlying48 (zero_unit W) unitElem_mk (pair_key (min x y) (max x y) (lo_ok hx hy) (hi_ok hx hy))
    have : v = .agg #[] := (unitElem_inv hv).1
    subst this
    have e := hD.2 _ _ (lo_ok hx hy) (hi_ok hx hy)
    unfold lo hi at e
    rw [e] at hr
    exact hr
theorem cutW_of {w : World} {b n B : Nat} {D : DU} (h : w.ownsMap Try.prog 70 unitElem b n D) (hn : n ≤ B) : ∃ ob, (∀ W, CutW (some b) ob W → ∃ n, n ≤ B ∧ W.ownsMap Try.prog 70 unitElem b n D) ∧ CutW (some b) ob w := by
  obtain ⟨es, clock, hb, r⟩ := h
  refine ⟨.map es clock, fun W hW => ⟨n, hn, es, clock, hW b rfl, r⟩, fun b' e => by cases e; exact hb⟩
theorem cutR_cutC_del (C : List (Int × Int)) (a b x y : Int) : cutR (cutC C a b false) x y = if x = lo a b ∧ y = hi a b then false else cutR C x y := by
  unfold cutR cutC
  simp only [Bool.false_eq_true, if_false, List.append_nil]
  by_cases h : x = lo a b ∧ y = hi a b
  · rw [if_pos h, h.1, h.2, List.any_eq_false]
    intro c hc
    have := (List.mem_filter.1 hc).2
    rw [Bool.not_eq_true'] at this
    rw [this]; simp
  · rw [if_neg h, List.any_filter]
    congr 1
    funext c
    by_cases h1 : (c.1 == x && c.2 == y) = true
    · rw [h1, Bool.and_true]
      rw [Bool.and_eq_true, beq_iff_eq, beq_iff_eq] at h1
      have : (c.1 == lo a b && c.2 == hi a b) = false := by
        rw [Bool.eq_false_iff]
        intro h9
        rw [Bool.and_eq_true, beq_iff_eq, beq_iff_eq] at h9
        exact h ⟨by omega, by omega⟩
      rw [this]; rfl
    · rw [Bool.not_eq_true] at h1
      rw [h1, Bool.and_false]
theorem cutR_cutC_put (C : List (Int × Int)) (a b x y : Int) : cutR (cutC C a b true) x y = if x = lo a b ∧ y = hi a b then true else cutR (cutC C a b false) x y := by
  unfold cutR cutC
  simp only [if_true, Bool.false_eq_true, if_false, List.append_nil, List.any_append, List.any_cons, List.any_nil, Bool.or_false]
  by_cases h : x = lo a b ∧ y = hi a b
  · rw [if_pos h, h.1, h.2]; simp
  · rw [if_neg h]
    have : (lo a b == x && hi a b == y) = false := by
      rw [Bool.eq_false_iff]
      intro h9
      rw [Bool.and_eq_true, beq_iff_eq, beq_iff_eq] at h9
      exact h ⟨h9.1.symm, h9.2.symm⟩
    rw [this, Bool.or_false]
end Go.Proofs.Ythdpajgnigilhaa

/- net's Net: Cut of any two ends, as a whole. -/
namespace Go.Proofs.Ythdpajgnigilhaa
open Go.RowKit Go.Conc Go.Maps

def cutDo (D : DU) (k : Lit) (on : Bool) : DU := if on then (D.del k).put k (.agg []) else D.del k

set_option maxHeartbeats 2000000 in
set_option maxRecDepth 100000 in
theorem net_cut1 (nb mb n : Nat) (w : World) (a b : Int) (on : Bool) (D : DU) (ha : i64ok a) (hb : i64ok b) (hn : n < 1000000) (hc : w.cell? ⟨nb, 2, none⟩ = some (.map (some mb))) (ho : w.ownsMap Try.prog 70 unitElem mb n D) (hne : nb ≠ mb) :
    Calls Try.prog 14 #[.pointer (some ⟨nb, 0, none⟩), .int .i64 a, .int .i64 b, .bool on] w fun e w' => e = .returned (.tuple #[]) ∧ (∃ n', n' ≤ n + 1 ∧ w'.ownsMap Try.prog 70 unitElem mb n' (cutDo D (pairL (lo a b) (hi a b)) on)) ∧ Fr (fun k => k = mb) w w' := by
  have hq := map_some_nil mb
  have hn1 : nb < w.heap.size := cell_lt hc
  have HK : Hid (keyOf Try.prog 70 (.agg #[.int .i64 (min a b), .int .i64 (max a b)]) = some (pairL (lo a b) (hi a b))) := Lib.hid (pair_key _ _ (lo_ok ha hb) (hi_ok ha hb))
  have HO1 := Lib.hid ho
  have hne' : ¬ (fun k => k = mb) nb := hne
  have HEN : Hid (∀ W, Calls Try.prog 31 #[.int .i64 a, .int .i64 b] W fun e w' => e = .returned (.agg #[.int .i64 (min a b), .int .i64 (max a b)]) ∧ Below W.heap.size W w') := Lib.hid (fun W => net_ends a b W)
  clear ho
  generalize pairL (lo a b) (hi a b) = k at *
  generalize min a b = za at *
  generalize max a b = zb at *
  go_enter Try.func14, Try.ntmps14
  go_wp2
  go_region_held3 (fun w' => w'.cell? ⟨nb, 2, none⟩ = some (.map (some mb)))
    (first | go_keep | exact (hF6.cell (p := ⟨nb, 2, none⟩) hn1 hne').trans hc | exact (hb5.cell (p := ⟨nb, 2, none⟩) hn1).trans (by assumption))
    (first
      | (go_at_call 31; refine (HEN.out _).mono ?_; rintro e w5 ⟨rfl, hb5⟩; have ho5 := own_fr HO1.out (Fr.trans ((Fr.refl (fun _ => False) w).drew) (Fr.of_all (S := fun _ => False) hb5) (fun _ h _ => h)) (fun h => h); obtain ⟨w6, hdel, ho6, ht6⟩ := ho5.drop lawP Try.underlying48 HK.out 0; have hF6 : Fr (fun k => k = mb) w w6 := Fr.trans (Fr.trans ((Fr.refl _ w).drew) (Fr.of_all (S := fun k => k = mb) hb5) (fun _ h _ => h)) (fr_turned ht6) (fun _ h _ => h)))
  have c6 : w6.cell? ⟨nb, 2, none⟩ = some (.map (some mb)) := (hF6.cell (p := ⟨nb, 2, none⟩) hn1 hne').trans hc
  have HF6 := Lib.hid hF6
  have HO6 := Lib.hid ho6
  have hz6 := hF6.size
  have hn6 : nb < w6.heap.size := by omega
  clear hF6 ho6 ht6 hdel ho5 hb5 hz6 HO1 hc hn1
  cases on with
  | false =>
    go_wp2
    go_end0
    exact ⟨rfl, ⟨n, by omega, HO6.out⟩, HF6.out⟩
  | true =>
    go_wp2
    go_region_held3 (fun w' => w'.cell? ⟨nb, 2, none⟩ = some (.map (some mb)))
      (first | go_keep | exact (hF8.cell (p := ⟨nb, 2, none⟩) hn6 hne').trans c6 | exact (hb7.cell (p := ⟨nb, 2, none⟩) hn6).trans (by assumption))
      (first
        | (go_at_call 31; refine (HEN.out _).mono ?_; rintro e w7 ⟨rfl, hb7⟩; have ho7 := own_fr HO6.out (Fr.trans ((Fr.refl (fun _ => False) w6).drew) (Fr.of_all (S := fun _ => False) hb7) (fun _ h _ => h)) (fun h => h); obtain ⟨w8, hput, ho8, ht8⟩ := ho7.store lawP Try.underlying48 (by unfold maxLen; omega) HK.out unitElem_mk; have hF8 : Fr (fun k => k = mb) w6 w8 := Fr.trans (Fr.trans ((Fr.refl _ w6).drew) (Fr.of_all (S := fun k => k = mb) hb7) (fun _ h _ => h)) (fr_turned ht8) (fun _ h _ => h)))
    go_wp2
    go_end0
    exact ⟨rfl, ⟨_, by omega, ho8⟩, Fr.trans HF6.out hF8 (fun _ h _ => h)⟩

set_option maxHeartbeats 2000000 in
set_option maxRecDepth 100000 in
theorem net_cut0 (nb : Nat) (w : World) (a b : Int) (on : Bool) (ha : i64ok a) (hb : i64ok b) (hc : w.cell? ⟨nb, 2, none⟩ = some (.map none)) (hf : w.frozen? ⟨nb, 2, none⟩ = false) :
    Calls Try.prog 14 #[.pointer (some ⟨nb, 0, none⟩), .int .i64 a, .int .i64 b, .bool on] w fun e w' => e = .returned (.tuple #[]) ∧ (∃ n', n' ≤ 1 ∧ w'.ownsMap Try.prog 70 unitElem w.heap.size n' (cutDo (.map []) (pairL (lo a b) (hi a b)) on)) ∧ Fr (fun k => k = w.heap.size) (w.setCell ⟨nb, 2, none⟩ (.map (some w.heap.size))) w' := by
  have hq := map_nil_nil
  have hmm := @run_makeMap Try.prog
  have hlt := cell_lt hc
  have HK : Hid (keyOf Try.prog 70 (.agg #[.int .i64 (min a b), .int .i64 (max a b)]) = some (pairL (lo a b) (hi a b))) := Lib.hid (pair_key _ _ (lo_ok ha hb) (hi_ok ha hb))
  have HEN : Hid (∀ W, Calls Try.prog 31 #[.int .i64 a, .int .i64 b] W fun e w' => e = .returned (.agg #[.int .i64 (min a b), .int .i64 (max a b)]) ∧ Below W.heap.size W w') := Lib.hid (fun W => net_ends a b W)
  generalize pairL (lo a b) (hi a b) = k at *
  generalize min a b = za at *
  generalize max a b = zb at *
  go_enter Try.func14, Try.ntmps14
  go_wp2
  have hsz0 : (w.setCell ⟨nb, 2, none⟩ (.map (some w.heap.size))).heap.size = w.heap.size := by simp [World.setCell]
  have own1 : ((w.setCell ⟨nb, 2, none⟩ (.map (some w.heap.size))).alloc (.map #[] 0)).ownsMap Try.prog 70 (unitElem (H := Unit)) w.heap.size 0 (.map []) := by
    have := World.ownsMap_made (H := Unit) (w.setCell ⟨nb, 2, none⟩ (.map (some w.heap.size))) Try.prog 70 unitElem
    rw [hsz0] at this
    exact this
  have c1 : ((w.setCell ⟨nb, 2, none⟩ (.map (some w.heap.size))).alloc (.map #[] 0)).cell? ⟨nb, 2, none⟩ = some (.map (some w.heap.size)) := by
    rw [World.cell?_alloc_lt _ _ _ (by rw [hsz0]; exact hlt)]
    exact cell_set_same _ _ _ _ hc
  have hF1 : Fr (fun k => k = w.heap.size) (w.setCell ⟨nb, 2, none⟩ (.map (some w.heap.size))) ((w.setCell ⟨nb, 2, none⟩ (.map (some w.heap.size))).alloc (.map #[] 0)) := (Fr.refl _ _).alloc _
  have hz1 : ((w.setCell ⟨nb, 2, none⟩ (.map (some w.heap.size))).alloc (.map #[] 0)).heap.size = w.heap.size + 1 := by rw [World.size_alloc, hsz0]
  generalize hW0 : w.setCell ⟨nb, 2, none⟩ (.map (some w.heap.size)) = W0 at *
  have HW0 := Lib.hid hW0
  clear hW0
  generalize W0.alloc (.map #[] 0) = W1 at *
  have hb1 : w.heap.size < W1.heap.size := by omega
  have hn1 : nb < W1.heap.size := by omega
  have HF1 := Lib.hid hF1
  have hne : ¬ (fun k => k = w.heap.size) nb := by show ¬ nb = w.heap.size; omega
  have HO1 := Lib.hid own1
  clear hc hf hq hmm hsz0 hz1 hF1 own1
  go_region_held3 (fun w' => w'.cell? ⟨nb, 2, none⟩ = some (.map (some w.heap.size)))
    (first | go_keep | exact (hF6.cell (p := ⟨nb, 2, none⟩) hn1 hne).trans c1 | exact (hb5.cell (p := ⟨nb, 2, none⟩) hn1).trans (by assumption))
    (first
      | (go_at_call 31; refine (HEN.out _).mono ?_; rintro e w5 ⟨rfl, hb5⟩; have ho5 := own_fr HO1.out (Fr.trans ((Fr.refl (fun _ => False) W1).drew) (Fr.of_all (S := fun _ => False) hb5) (fun _ h _ => h)) (fun h => h); obtain ⟨w6, hdel, ho6, ht6⟩ := ho5.drop lawP Try.underlying48 HK.out 0; have hF6 : Fr (fun k => k = w.heap.size) W1 w6 := Fr.trans (Fr.trans ((Fr.refl _ W1).drew) (Fr.of_all (S := fun k => k = w.heap.size) hb5) (fun _ h _ => h)) (fr_turned ht6) (fun _ h _ => h)))
  have c6 : w6.cell? ⟨nb, 2, none⟩ = some (.map (some w.heap.size)) := (hF6.cell (p := ⟨nb, 2, none⟩) hn1 hne).trans c1
  have HF6 := Lib.hid (Fr.trans HF1.out hF6 (fun _ h _ => h))
  have HO6 := Lib.hid ho6
  have hz6 := hF6.size
  have hb6 : w.heap.size < w6.heap.size := by omega
  have hn6 : nb < w6.heap.size := by omega
  clear hF6 ho6 ht6 hdel ho5 hb5 hz6 c1 HF1 HO1
  cases on with
  | false =>
    go_wp2
    go_end0
    exact ⟨rfl, ⟨0, by omega, HO6.out⟩, by rw [HW0.out]; exact HF6.out⟩
  | true =>
    go_wp2
    go_region_held3 (fun w' => w'.cell? ⟨nb, 2, none⟩ = some (.map (some w.heap.size)))
      (first | go_keep | exact (hF8.cell (p := ⟨nb, 2, none⟩) hn6 hne).trans c6 | exact (hb7.cell (p := ⟨nb, 2, none⟩) hn6).trans (by assumption))
      (first
        | (go_at_call 31; refine (HEN.out _).mono ?_; rintro e w7 ⟨rfl, hb7⟩; have ho7 := own_fr HO6.out (Fr.trans ((Fr.refl (fun _ => False) w6).drew) (Fr.of_all (S := fun _ => False) hb7) (fun _ h _ => h)) (fun h => h); obtain ⟨w8, hput, ho8, ht8⟩ := ho7.store lawP Try.underlying48 (by unfold maxLen; omega) HK.out unitElem_mk; have hF8 : Fr (fun k => k = w.heap.size) w6 w8 := Fr.trans (Fr.trans ((Fr.refl _ w6).drew) (Fr.of_all (S := fun k => k = w.heap.size) hb7) (fun _ h _ => h)) (fr_turned ht8) (fun _ h _ => h)))
    go_wp2
    go_end0
    exact ⟨rfl, ⟨_, by omega, ho8⟩, by rw [HW0.out]; exact Fr.trans HF6.out hF8 (fun _ h _ => h)⟩

theorem PairD.cut {D : DU} {C : List (Int × Int)} (h : PairD D (cutR C)) {a b : Int} (ha : i64ok a) (hb : i64ok b) (on : Bool) : PairD (cutDo D (pairL (lo a b) (hi a b)) on) (cutR (cutC C a b on)) := by
  have h1 := h.del (R' := cutR (cutC C a b false)) (lo_ok ha hb) (hi_ok ha hb) (fun x y => cutR_cutC_del C a b x y)
  cases on with
  | false => exact h1
  | true => exact h1.put (lo_ok ha hb) (hi_ok ha hb) (fun x y => cutR_cutC_put C a b x y) _

theorem NetI.cu_set {nb base : Nat} {v : Value} {l : List Nd} {seq : Int} {cu ch : Value} {w : World} (h : NetI nb base v l seq cu ch w) (cu' : Value) :
    NetI nb base v l seq cu' ch (w.setCell ⟨nb, 2, none⟩ cu') ∧ Fr (fun k => k = nb) w (w.setCell ⟨nb, 2, none⟩ cu') := by
  obtain ⟨⟨a1, a2, a3, a4, a5, a6⟩, b, c, d, e, f, g, i⟩ := h
  have hF : Fr (fun k => k = nb) w (w.setCell ⟨nb, 2, none⟩ cu') := (Fr.refl (fun k => k = nb) w).setCell (p := ⟨nb, 2, none⟩) (fun _ => rfl) _
  refine ⟨⟨⟨?_, by rw [frozen_set]; exact a2, hF.owns a3 (fun g hg e => a4 (by rw [hg, e])), a4, a5, Nat.le_trans a6 hF.size⟩, ?_, by rw [frozen_set]; exact c, cell_set_same _ _ _ _ d, by rw [frozen_set]; exact e, ?_, by rw [frozen_set]; exact g, i⟩, hF⟩
  · rw [World.cell?_setCell_other _ _ _ _ (by simp)]; exact a1
  · rw [World.cell?_setCell_other _ _ _ _ (by simp)]; exact b
  · rw [World.cell?_setCell_other _ _ _ _ (by simp)]; exact f

/-- Cut. -/
theorem nt_cut {base nb : Nat} {S : List Nd} {seq : Int} {cu : Value} {m : Option Nat} {ob : Obj} {F : Nat → Prop} {w : World} {B : Nat} {C : List (Int × Int)} (h : Nt base nb S seq cu m ob F w) (hC : CutOk cu m ob B C) (hB : B < 100000) (a b : Int) (on : Bool) (ha : i64ok a) (hb : i64ok b) :
    Calls Try.prog 14 #[.pointer (some ⟨nb, 0, none⟩), .int .i64 a, .int .i64 b, .bool on] w fun e w' => e = .returned (.tuple #[]) ∧ ∃ cu' m' ob', Nt base nb S seq cu' m' ob' F w' ∧ CutOk cu' m' ob' (B + 1) (cutC C a b on) ∧
      Fr (fun k => F k ∨ m = some k) w w' ∧ ∀ k, m' = some k → m = some k ∨ w.heap.size ≤ k := by
  obtain ⟨v, ch, l, hI, hp, hch, hcw, hmF, hge, hbs, rfl⟩ := h
  rcases hC with ⟨rfl, rfl, rfl⟩ | ⟨mb, D, rfl, rfl, ho, hD⟩
  · refine (net_cut0 nb w a b on ha hb hI.c2 hI.f2).mono ?_
    rintro e w' ⟨rfl, ⟨n', hn', hown⟩, hF⟩
    obtain ⟨ob', hob, hcw'⟩ := cutW_of hown hn'
    obtain ⟨hI2, hF2⟩ := hI.cu_set (.map (some w.heap.size))
    have hsz : (w.setCell ⟨nb, 2, none⟩ (.map (some w.heap.size))).heap.size = w.heap.size := by simp [World.setCell]
    have hnF : ∀ k, sendS nb v ch k → ¬ k = w.heap.size := fun k hk e => by have := (hge k hk).2; omega
    have hW : Fr (fun k => k = nb) w w' := Fr.trans hF2 hF (fun i hi hlt => by have : i = w.heap.size := hi; omega)
    refine ⟨rfl, .map (some w.heap.size), some w.heap.size, ob', ⟨v, ch, l, hI2.keep hF (fun k hk => hnF k (.inl hk)), hp, ?_, hcw', fun b' e hk => ?_, fun k hk => ⟨(hge k hk).1, Nat.lt_of_lt_of_le (hge k hk).2 hW.size⟩, Nat.le_trans hbs hW.size, rfl⟩, .inr ⟨w.heap.size, _, rfl, rfl, fun W hW' => ?_, PairD.nil.cut ha hb on⟩, hW.mono (fun i _ e => .inl (.inl (.inl e))), fun k e => .inr ?_⟩
    · refine hch.keep hW (fun c hc e => ?_)
      subst e
      rcases hch with h9 | ⟨c', s, r, h1, h2⟩
      · rw [h9] at hc; cases hc
      · rw [h1] at hc
        have e : c' = c := by injection hc with hc; injection hc
        subst e
        exact hI.not_chan h2 (.inl rfl)
    · injection e with e
      subst e
      exact hnF _ hk rfl
    · obtain ⟨n2, h1, h2⟩ := hob W hW'
      exact ⟨n2, by omega, h2⟩
    · injection e with e
      omega
  · obtain ⟨n, hn, how⟩ := ho w hcw
    have hnm : ¬ sendS nb v ch mb := hmF mb rfl
    refine (net_cut1 nb mb n w a b on D ha hb (by omega) hI.c2 how (fun e => hnm (.inl (.inl e.symm)))).mono ?_
    rintro e w' ⟨rfl, ⟨n', hn', hown⟩, hF⟩
    obtain ⟨ob', hob, hcw'⟩ := cutW_of hown (B := B + 1) (by omega)
    have hkF : ∀ k, sendS nb v ch k → ¬ k = mb := fun k hk e => hnm (e ▸ hk)
    refine ⟨rfl, .map (some mb), some mb, ob', ⟨v, ch, l, hI.keep hF (fun k hk => hkF k (.inl hk)), hp, hch.keep hF (fun c hc => hkF c (.inr hc)), hcw', hmF, fun k hk => ⟨(hge k hk).1, Nat.lt_of_lt_of_le (hge k hk).2 hF.size⟩, Nat.le_trans hbs hF.size, rfl⟩, .inr ⟨mb, _, rfl, rfl, hob, hD.cut ha hb on⟩, hF.mono (fun i _ e => .inr (by rw [e])), fun k e => .inl e⟩
end Go.Proofs.Ythdpajgnigilhaa

/- append(row, xs...) of things of several cells: the row is the call's own, xs any slice that reads. No program in sight. -/
namespace Go.Proofs.Ythdpajgnigilhaa
open Go.RowKit

/-- A type of slices, of its elements, how an element lies. -/
structure RowT {α : Type} (P : Program) (ts te : TypeId) (f : α → List Value) (size bytes : Nat) : Prop where
  un : P.underlying ts = some (.slice te)
  info : ∃ i z, P.info? te = some i ∧ i.zero = some z ∧ i.size = size ∧ i.bytes = bytes ∧ z.cells.size = size
  pos : 0 < size
  len : ∀ x, (f x).length = size
  one : ∀ x, ∀ u ∈ f x, u.oneCell' = true
  byt : bytes ≤ 1000000

section
variable {α : Type} {P : Program} {ts te : TypeId} {f : α → List Value} {size bytes : Nat}

theorem RowT.of (un : P.underlying ts = some (.slice te)) {z : Value} (hi : (P.info? te).map (fun i => (i.zero, i.size, i.bytes)) = some (some z, size, bytes)) (hz : z.cells.size = size) (pos : 0 < size) (len : ∀ x, (f x).length = size) (one : ∀ x, ∀ u ∈ f x, u.oneCell' = true) (byt : bytes ≤ 1000000) : RowT P ts te f size bytes :=
  ⟨un, by obtain ⟨i, h1, h2, h3, h4⟩ := info_parts hi; exact ⟨i, z, h1, h2, h3, h4, hz⟩, pos, len, one, byt⟩

theorem rowOf_mem {zs : List α} {u : Value} (h : u ∈ rowOf f zs) : ∃ x, x ∈ zs ∧ u ∈ f x := by
  unfold rowOf at h
  obtain ⟨x, h1, h2⟩ := List.mem_flatMap.1 h
  exact ⟨x, h1, h2⟩

/-- How append runs; where the new row lies. -/
theorem RowT.run (T : RowT P ts te f size bytes) {w : World} (ty : TypeId) (base : Nat) (v : Value) (n : Nat) (xs : List Value) (hown : w.ownsRow base te size v n xs) {p : Option Addr} {m c B : Nat} {zs : List α} (hR : RdG f w B p m zs) (hp0 : p = none → c = 0) (hsm : n + m ≤ 1000000) (hbase : base ≤ w.heap.size) :
    ∃ v' w', (Builtin.append_ #[ts, ts] ty #[v, .slice p m c]).run P w = .ok v' w' ∧ w'.ownsRow base te size v' (n + m) (xs ++ rowOf f zs) ∧ w.grownBy w' v.ownBlock ∧ (v'.ownBlock = v.ownBlock ∨ v'.ownBlock = some w.heap.size) := by
  obtain ⟨i0, z0, hi0, hz0, hz1, hz2, hz3⟩ := T.info
  have hz := hR.1
  have hlen : (rowOf f zs).length = m * size := by rw [rowOf_length f T.len, hz]
  cases p with
  | none =>
    have h0 : m = 0 := by
      rcases Nat.eq_zero_or_pos m with h0 | h0
      · exact h0
      · obtain ⟨b, o, e, _⟩ := hR.2 h0; cases e
    have hc := hp0 rfl
    subst h0 hc
    have : zs = [] := List.eq_nil_of_length_eq_zero hz
    subst this
    exact ⟨v, w, run_append_owned_none (P := P) (w := w) base ts ty te i0 size T.un hi0 v n xs hown, by simpa [rowOf] using hown, ⟨rfl, rfl, rfl, Nat.le_refl _, fun _ _ _ => rfl⟩, .inl rfl⟩
  | some ad =>
    have hb : (n + m) * bytes ≤ 140737488355328 := Nat.le_trans (Nat.mul_le_mul hsm T.byt) (by decide)
    have hm1 : ∀ j u, (rowOf f zs)[j]? = some u → 0 < m := fun j u hu => by
      have := (List.getElem?_eq_some_iff.1 hu).1
      rw [hlen] at this
      rcases Nat.eq_zero_or_pos m with h | h
      · rw [h] at this; omega
      · exact h
    obtain ⟨v', w', hr, h2, h3, _, h5⟩ := run_append_own_at (P := P) w base ts ty te i0 z0 size bytes T.un hi0 hz0 hz1 hz2 hz3 T.pos v n xs hown ad m c (rowOf f zs) hlen (by
      intro j u hu
      obtain ⟨b, o, e, hlt, hc⟩ := hR.2 (hm1 j u hu)
      injection e with e
      subst e
      rw [add_at]
      exact hc j u hu) (fun u hu => by
        obtain ⟨x, _, hx⟩ := rowOf_mem hu
        exact T.one x u hx) (by unfold maxLen; omega) hb hbase
    exact ⟨v', w', hr, h2, h3, h5⟩

/-- append at a step. -/
theorem RowT.app (T : RowT P ts te f size bytes) {ops : Array Oper} {rest : List Oper} {o : Oper} {a : Act} {Q : Exit → Act → World → Prop} {w : World} (hgd : o.guard = none) (s x : Operand)
    (ho : o.op = .call { callee := .builtin .append, args := #[s, x], argTypes := #[ts, ts] }) (base : Nat) (v : Value) (n : Nat) (xs : List Value) (hs : a.eval s = v) (hown : w.ownsRow base te size v n xs)
    {p : Option Addr} {m c B : Nat} {zs : List α} (hx : a.eval x = .slice p m c) (hR : RdG f w B p m zs) (hp0 : p = none → c = 0) (hsm : n + m ≤ 1000000) (hbase : base ≤ w.heap.size)
    (h : ∀ v' w', w'.ownsRow base te size v' (n + m) (xs ++ rowOf f zs) → w.grownBy w' v.ownBlock → (v'.ownBlock = v.ownBlock ∨ v'.ownBlock = some w.heap.size) → wpList P ops Q rest (a.put o.dst v') w') : wpList P ops Q (o :: rest) a w := by
  obtain ⟨v', w', hr, h2, h3, h4⟩ := T.run o.type base v n xs hown hR hp0 hsm hbase
  refine wpList_plain hgd fun _ hK => ?_
  unfold Oper.wp execOp
  simp only [ho, resolve, invoke, builtin, Sem.run_bind, Sem.run_pure, Result.andThen_ok, List.map_toArray, List.map_cons, List.map_nil, hs, hx, hr]
  exact hK _ _ (h v' w' h2 h3 h4)

/-- append at a step of a region that draws its order. -/
theorem RowT.step (T : RowT P ts te f size bytes) {ops : Array Oper} {o : Oper} {a : Act} {K : Act → World → Prop} {Q : Exit → Act → World → Prop} {E : Prop} {w : World} (hgd : o.guard = none) (s x : Operand)
    (ho : o.op = .call { callee := .builtin .append, args := #[s, x], argTypes := #[ts, ts] }) (base : Nat) (v : Value) (n : Nat) (xs : List Value) (hs : a.eval s = v) (hown : w.ownsRow base te size v n xs)
    {p : Option Addr} {m c B : Nat} {zs : List α} (hx : a.eval x = .slice p m c) (hR : RdG f w B p m zs) (hp0 : p = none → c = 0) (hsm : n + m ≤ 1000000) (hbase : base ≤ w.heap.size)
    (h : ∀ v' w', w'.ownsRow base te size v' (n + m) (xs ++ rowOf f zs) → w.grownBy w' v.ownBlock → (v'.ownBlock = v.ownBlock ∨ v'.ownBlock = some w.heap.size) → K (a.put o.dst v') w') : if Region.wanted o (yielded ops a.tmps) = true then Oper.wp P o a w K Q else E := by
  obtain ⟨v', w', hr, h2, h3, h4⟩ := T.run o.type base v n xs hown hR hp0 hsm hbase
  have hw : Region.wanted o (yielded ops a.tmps) = true := by simp [Region.wanted, hgd]
  rw [if_pos hw]
  unfold Oper.wp execOp
  simp only [ho, resolve, invoke, builtin, Sem.run_bind, Sem.run_pure, Result.andThen_ok, List.map_toArray, List.map_cons, List.map_nil, hs, hx, hr]
  exact h v' w' h2 h3 h4
end

/-! ### Parts of a slice that reads -/
section
variable {α : Type} {f : α → List Value} {size : Nat}

theorem rowOf_take (hf : ∀ x, (f x).length = size) : ∀ (zs : List α) (k : Nat), rowOf f (zs.take k) = (rowOf f zs).take (k * size)
  | zs, 0 => by simp [rowOf]
  | [], k + 1 => by simp [rowOf]
  | x :: zs, k + 1 => by
    have e : rowOf f (x :: zs) = f x ++ rowOf f zs := by simp [rowOf]
    have e2 : rowOf f (x :: zs.take k) = f x ++ rowOf f (zs.take k) := by simp [rowOf]
    rw [List.take_succ_cons, e, e2, rowOf_take hf zs k, List.take_append, hf, List.take_of_length_le (l := f x) (by rw [hf, Nat.succ_mul]; omega)]
    congr 2
    rw [Nat.succ_mul]; omega
theorem rowOf_drop (hf : ∀ x, (f x).length = size) : ∀ (zs : List α) (k : Nat), rowOf f (zs.drop k) = (rowOf f zs).drop (k * size)
  | zs, 0 => by simp [rowOf]
  | [], k + 1 => by simp [rowOf]
  | x :: zs, k + 1 => by
    have e : rowOf f (x :: zs) = f x ++ rowOf f zs := by simp [rowOf]
    have e3 : (f x).drop ((k + 1) * size) = [] := List.drop_eq_nil_of_le (by rw [hf, Nat.succ_mul]; omega)
    rw [List.drop_succ_cons, e, rowOf_drop hf zs k, List.drop_append, hf, e3, List.nil_append]
    congr 1
    rw [Nat.succ_mul]; omega

theorem RdG.takes {w : World} {B n k : Nat} {p : Option Addr} {zs : List α} (hf : ∀ x, (f x).length = size) (h : RdG f w B p n zs) (hk : k ≤ n) : RdG f w B p k (zs.take k) := by
  refine ⟨by rw [List.length_take, h.1]; omega, fun hk0 => ?_⟩
  obtain ⟨b, o, e, hb, hc⟩ := h.2 (by omega)
  refine ⟨b, o, e, hb, fun j u hu => hc j u ?_⟩
  rw [rowOf_take hf, List.getElem?_take] at hu
  split at hu
  · exact hu
  · cases hu
theorem RdG.drops {w : World} {B n k b o : Nat} {zs : List α} (hf : ∀ x, (f x).length = size) (h : RdG f w B (some ⟨b, o, none⟩) n zs) (hk : k ≤ n) : RdG f w B (some ⟨b, o + k * size, none⟩) (n - k) (zs.drop k) := by
  refine ⟨by rw [List.length_drop, h.1], fun hk0 => ?_⟩
  obtain ⟨b', o', e, hb, hc⟩ := h.2 (by omega)
  injection e with e
  injection e with e1 e2 _
  subst e1 e2
  refine ⟨b, o + k * size, rfl, hb, fun j u hu => ?_⟩
  rw [rowOf_drop hf, List.getElem?_drop] at hu
  rw [Nat.add_assoc]
  exact hc _ u hu
end
end Go.Proofs.Ythdpajgnigilhaa

