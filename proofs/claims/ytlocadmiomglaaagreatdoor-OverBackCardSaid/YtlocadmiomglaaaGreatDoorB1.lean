/- Merged texts: HeapList Fr HeapC HeapD HeapE HeapI Ints. -/
import Derived.Test.YtlocadmiomglaaaGreatDoorRows
import Derived.WalkKit
import Derived.WalkSpells
import Derived.WalkLawsBesides
import Derived.Laws.OwnMore
import Derived.Laws.Rows
import Derived.StillTailTactics
import Derived.Lib.Hide
import Derived.Deep.LoopGhost
/- Plain facts on binary heaps in lists (no program): exchange, the invariants of sifting up and down. -/
namespace Go.Proofs.YtlocadmiomglaaaGreatDoor.HL

variable {α : Type} [Inhabited α]

/-- Element k. -/
def el (l : List α) (k : Nat) : α := l.getD k default

/-- Two elements exchanged. -/
def swp (l : List α) (i j : Nat) : List α := (l.set i (el l j)).set j (el l i)

theorem swp_length (l : List α) (i j : Nat) : (swp l i j).length = l.length := by simp [swp]

theorem el_set (l : List α) (i k : Nat) (x : α) (hi : i < l.length) : el (l.set i x) k = if k = i then x else el l k := by
  unfold el
  rw [List.getD_eq_getElem?_getD, List.getD_eq_getElem?_getD, List.getElem?_set]
  by_cases h : i = k
  · subst h; simp [hi]
  · rw [if_neg h, if_neg (fun e => h e.symm)]

theorem el_swp (l : List α) (i j k : Nat) (hi : i < l.length) (hj : j < l.length) :
    el (swp l i j) k = if k = j then el l i else if k = i then el l j else el l k := by
  unfold swp
  rw [el_set _ _ _ _ (by simpa using hj), el_set _ _ _ _ hi]

theorem el_append_left (l m : List α) (k : Nat) (h : k < l.length) : el (l ++ m) k = el l k := by
  unfold el
  rw [List.getD_eq_getElem?_getD, List.getD_eq_getElem?_getD, List.getElem?_append_left h]

theorem el_mem (l : List α) (k : Nat) (h : k < l.length) : el l k ∈ l := by
  unfold el
  rw [List.getD_eq_getElem?_getD, List.getElem?_eq_getElem h]
  simp

theorem el_eq (l : List α) (k : Nat) (h : k < l.length) : l[k]? = some (el l k) := by
  unfold el
  rw [List.getD_eq_getElem?_getD, List.getElem?_eq_getElem h]
  rfl

theorem ext_el {l m : List α} (hl : l.length = m.length) (h : ∀ k, k < l.length → el l k = el m k) : l = m := by
  refine List.ext_getElem? fun k => ?_
  by_cases hk : k < l.length
  · rw [el_eq l k hk, el_eq m k (by omega), h k hk]
  · rw [List.getElem?_eq_none (by omega), List.getElem?_eq_none (by omega)]

theorem swp_perm (l : List α) (i j : Nat) (hi : i < l.length) (hj : j < l.length) : (swp l i j).Perm l := by
  induction l generalizing i j with
  | nil => simp at hi
  | cons x l ih =>
    cases i with
    | zero =>
      cases j with
      | zero => simp [swp, el]
      | succ j =>
        have hj' : j < l.length := by simpa using hj
        have e : swp (x :: l) 0 (j + 1) = el l j :: l.set j x := by simp [swp, el]
        rw [e]
        have h1 : l = l.take j ++ el l j :: l.drop (j + 1) := by
          conv => lhs; rw [← List.take_append_drop j l, List.drop_eq_getElem_cons hj']
          congr 1
          have := el_eq l j hj'
          rw [List.getElem?_eq_getElem hj'] at this
          simp at this
          rw [this]
        have h2 : l.set j x = l.take j ++ x :: l.drop (j + 1) := by
          rw [List.set_eq_take_append_cons_drop, if_pos hj']
        rw [h2]
        refine List.Perm.trans ?_ (List.Perm.cons x (List.Perm.of_eq h1.symm))
        have p1 : (el l j :: (l.take j ++ x :: l.drop (j + 1))).Perm (el l j :: x :: (l.take j ++ l.drop (j + 1))) := List.Perm.cons _ List.perm_middle
        have p2 : (x :: (l.take j ++ el l j :: l.drop (j + 1))).Perm (x :: el l j :: (l.take j ++ l.drop (j + 1))) := List.Perm.cons _ List.perm_middle
        exact p1.trans ((List.Perm.swap _ _ _).trans p2.symm)
    | succ i =>
      cases j with
      | zero =>
        have hi' : i < l.length := by simpa using hi
        have e : swp (x :: l) (i + 1) 0 = el l i :: l.set i x := by simp [swp, el]
        have e' : swp (x :: l) 0 (i + 1) = el l i :: l.set i x := by simp [swp, el]
        rw [e]
        have h1 : l = l.take i ++ el l i :: l.drop (i + 1) := by
          conv => lhs; rw [← List.take_append_drop i l, List.drop_eq_getElem_cons hi']
          congr 1
          have := el_eq l i hi'
          rw [List.getElem?_eq_getElem hi'] at this
          simp at this
          rw [this]
        have h2 : l.set i x = l.take i ++ x :: l.drop (i + 1) := by
          rw [List.set_eq_take_append_cons_drop, if_pos hi']
        rw [h2]
        refine List.Perm.trans ?_ (List.Perm.cons x (List.Perm.of_eq h1.symm))
        have p1 : (el l i :: (l.take i ++ x :: l.drop (i + 1))).Perm (el l i :: x :: (l.take i ++ l.drop (i + 1))) := List.Perm.cons _ List.perm_middle
        have p2 : (x :: (l.take i ++ el l i :: l.drop (i + 1))).Perm (x :: el l i :: (l.take i ++ l.drop (i + 1))) := List.Perm.cons _ List.perm_middle
        exact p1.trans ((List.Perm.swap _ _ _).trans p2.symm)
      | succ j =>
        have e : swp (x :: l) (i + 1) (j + 1) = x :: swp l i j := by simp [swp, el]
        rw [e]
        exact List.Perm.cons x (ih i j (by simpa using hi) (by simpa using hj))

/-- What an order must be for a heap: 'not less' is transitive, and 'less' is one-sided. -/
structure Ord (lt : α → α → Bool) : Prop where
  asymm : ∀ a b, lt a b = true → lt b a = false
  trans : ∀ a b c, lt b a = false → lt c b = false → lt c a = false

/-- The pair of k and its parent is in order. -/
def okAt (lt : α → α → Bool) (l : List α) (k : Nat) : Prop := lt (el l k) (el l ((k - 1) / 2)) = false

/-- The first n elements are a heap, as far as parents from lo on are concerned. -/
def HeapTo (lt : α → α → Bool) (lo : Nat) (l : List α) (n : Nat) : Prop := ∀ k, 0 < k → k < n → lo ≤ (k - 1) / 2 → okAt lt l k

def IsHeap (lt : α → α → Bool) (l : List α) : Prop := HeapTo lt 0 l l.length

/-- All is in order but for j and its parent. -/
def UpInv (lt : α → α → Bool) (l : List α) (n j : Nat) : Prop :=
  (∀ k, 0 < k → k < n → k ≠ j → okAt lt l k) ∧ (∀ k, 0 < k → k < n → (k - 1) / 2 = j → 0 < j → lt (el l k) (el l ((j - 1) / 2)) = false)

theorem UpInv.done {lt : α → α → Bool} {l : List α} {n j : Nat} (h : UpInv lt l n j) (hj : j = 0 ∨ okAt lt l j) : HeapTo lt 0 l n := by
  intro k h0 hk _
  by_cases e : k = j
  · subst e
    rcases hj with hj | hj
    · omega
    · exact hj
  · exact h.1 k h0 hk e

theorem UpInv.step {lt : α → α → Bool} (O : Ord lt) {l : List α} {n j : Nat} (hn : n ≤ l.length) (hj : j < n) (h0 : 0 < j) (h : UpInv lt l n j)
    (hl : lt (el l j) (el l ((j - 1) / 2)) = true) : UpInv lt (swp l ((j - 1) / 2) j) n ((j - 1) / 2) := by
  have hp : (j - 1) / 2 < l.length := by omega
  have hj' : j < l.length := by omega
  have hpj : (j - 1) / 2 < j := by omega
  obtain ⟨h1, h2⟩ := h
  refine ⟨fun k k0 kn kp => ?_, fun k k0 kn kp p0 => ?_⟩
  · unfold okAt
    rw [el_swp _ _ _ _ hp hj', el_swp _ _ _ _ hp hj']
    by_cases e : k = j
    · subst e
      rw [if_pos rfl, if_neg (by omega), if_pos rfl]
      exact O.asymm _ _ hl
    · rw [if_neg e, if_neg kp]
      by_cases e2 : (k - 1) / 2 = j
      · rw [if_pos e2]
        exact h2 k k0 kn e2 h0
      · rw [if_neg e2]
        by_cases e3 : (k - 1) / 2 = (j - 1) / 2
        · rw [if_pos e3]
          have := h1 k k0 kn e
          unfold okAt at this
          rw [e3] at this
          exact O.trans _ _ _ (O.asymm _ _ hl) this
        · rw [if_neg e3]
          exact h1 k k0 kn e
  · rw [el_swp _ _ _ _ hp hj', el_swp _ _ _ _ hp hj']
    have g := h1 ((j - 1) / 2) (by omega) (by omega) (by omega)
    rw [if_neg (by omega : ¬ ((j - 1) / 2 - 1) / 2 = j), if_neg (by omega : ¬ ((j - 1) / 2 - 1) / 2 = (j - 1) / 2)]
    by_cases e : k = j
    · rw [if_pos e]
      exact g
    · rw [if_neg e, if_neg (by omega)]
      have h3 := h1 k k0 kn e
      unfold okAt at h3
      rw [kp] at h3
      exact O.trans _ _ _ g h3

/-- Sifting down from i0: all is in order but for i and its children (and, as long as i is i0, i0 and its parent). -/
def DownInv (lt : α → α → Bool) (lo i0 : Nat) (l : List α) (n i : Nat) : Prop :=
  (∀ k, 0 < k → k < n → lo ≤ (k - 1) / 2 → (k - 1) / 2 ≠ i → (k ≠ i0 ∨ i0 < i) → okAt lt l k) ∧
  (∀ k, 0 < k → k < n → (k - 1) / 2 = i → 0 < i → lo ≤ (i - 1) / 2 → lt (el l k) (el l ((i - 1) / 2)) = false)

/-- The lesser child of i among the first n. -/
def kid (lt : α → α → Bool) (l : List α) (n i : Nat) : Nat := if 2 * i + 2 < n ∧ lt (el l (2 * i + 2)) (el l (2 * i + 1)) = true then 2 * i + 2 else 2 * i + 1

theorem DownInv.step {lt : α → α → Bool} (O : Ord lt) {lo i0 : Nat} {l : List α} {n i : Nat} (hn : n ≤ l.length) (hi0 : i0 ≤ i) (h : DownInv lt lo i0 l n i) (hc : 2 * i + 1 < n)
    (hl : lt (el l (kid lt l n i)) (el l i) = true) : DownInv lt lo i0 (swp l i (kid lt l n i)) n (kid lt l n i) := by
  obtain ⟨h1, h2⟩ := h
  have hk : (kid lt l n i - 1) / 2 = i ∧ kid lt l n i < n ∧ i < kid lt l n i := by
    unfold kid
    split <;> omega
  have hsib : ∀ k, 0 < k → k < n → (k - 1) / 2 = i → lt (el l k) (el l (kid lt l n i)) = false := by
    intro k k0 kn ki
    have hk2 : k = 2 * i + 1 ∨ k = 2 * i + 2 := by omega
    unfold kid
    split
    · rename_i hs
      rcases hk2 with rfl | rfl
      · exact O.asymm _ _ hs.2
      · cases hx : lt (el l (2 * i + 2)) (el l (2 * i + 2)) with
        | false => rfl
        | true => rw [← hx]; exact O.asymm _ _ hx
    · rename_i hs
      rcases hk2 with rfl | rfl
      · cases hx : lt (el l (2 * i + 1)) (el l (2 * i + 1)) with
        | false => rfl
        | true => rw [← hx]; exact O.asymm _ _ hx
      · cases hx : lt (el l (2 * i + 2)) (el l (2 * i + 1)) with
        | false => rfl
        | true => exact absurd ⟨kn, hx⟩ hs
  generalize kid lt l n i = c at *
  obtain ⟨hc1, hc2, hc3⟩ := hk
  have hcl : c < l.length := by omega
  have hil : i < l.length := by omega
  refine ⟨fun k k0 kn klo kc kor => ?_, fun k k0 kn kc c0 clo => ?_⟩
  · unfold okAt
    rw [el_swp _ _ _ _ hil hcl, el_swp _ _ _ _ hil hcl, if_neg kc]
    by_cases e : k = c
    · subst e
      rw [if_pos rfl, if_pos hc1]
      exact O.asymm _ _ hl
    · rw [if_neg e]
      by_cases e2 : k = i
      · subst e2
        rw [if_pos rfl, if_neg (by omega)]
        exact h2 c (by omega) hc2 hc1 (by omega) klo
      · rw [if_neg e2]
        by_cases e3 : (k - 1) / 2 = i
        · rw [if_pos e3]
          exact hsib k k0 kn e3
        · rw [if_neg e3]
          exact h1 k k0 kn klo e3 (by omega)
  · rw [el_swp _ _ _ _ hil hcl, el_swp _ _ _ _ hil hcl, if_neg (by omega), if_neg (by omega), hc1, if_neg (by omega), if_pos rfl]
    have := h1 k k0 kn (by omega) (by omega) (by omega)
    unfold okAt at this
    rw [kc] at this
    exact this

/-- Where i has no child that is less, all is in order behind i0. -/
theorem DownInv.done {lt : α → α → Bool} (O : Ord lt) {lo i0 : Nat} {l : List α} {n i : Nat} (h : DownInv lt lo i0 l n i)
    (hc : n ≤ 2 * i + 1 ∨ lt (el l (kid lt l n i)) (el l i) = false) : ∀ k, 0 < k → k < n → lo ≤ (k - 1) / 2 → (k ≠ i0 ∨ i0 < i) → okAt lt l k := by
  intro k k0 kn klo kor
  by_cases e : (k - 1) / 2 = i
  · rcases hc with hc | hc
    · omega
    · unfold okAt
      rw [e]
      have hk2 : k = 2 * i + 1 ∨ k = 2 * i + 2 := by omega
      unfold kid at hc
      split at hc
      · rename_i hs
        rcases hk2 with rfl | rfl
        · exact O.trans _ _ _ hc (O.asymm _ _ hs.2)
        · exact hc
      · rename_i hs
        rcases hk2 with rfl | rfl
        · exact hc
        · cases hx : lt (el l (2 * i + 2)) (el l (2 * i + 1)) with
          | true => exact absurd ⟨kn, hx⟩ hs
          | false => exact O.trans _ _ _ hc hx
  · exact h.1 k k0 kn klo e kor

/-- The first one of a heap is least. -/
theorem IsHeap.least {lt : α → α → Bool} (O : Ord lt) {l : List α} (h : IsHeap lt l) : ∀ k, k < l.length → lt (el l k) (el l 0) = false := by
  intro k
  induction k using Nat.strongRecOn with
  | _ k ih =>
    intro hk
    by_cases k0 : k = 0
    · subst k0
      cases hx : lt (el l 0) (el l 0) with
      | false => rfl
      | true => rw [← hx]; exact O.asymm _ _ hx
    · have h1 := h k (by omega) hk (Nat.zero_le _)
      have h2 := ih ((k - 1) / 2) (by omega) (by omega)
      exact O.trans _ _ _ h2 h1

theorem IsHeap.least_mem {lt : α → α → Bool} (O : Ord lt) {l : List α} (h : IsHeap lt l) (x : α) (hx : x ∈ l) : lt x (el l 0) = false := by
  obtain ⟨k, hk, rfl⟩ := List.getElem_of_mem hx
  have := h.least O k hk
  rw [show el l k = l[k] from by have := el_eq l k hk; rw [List.getElem?_eq_getElem hk] at this; simpa using this.symm] at this
  exact this

omit [Inhabited α] in
theorem Ord.irrefl {lt : α → α → Bool} (O : Ord lt) (a : α) : lt a a = false := by
  cases hx : lt a a with
  | false => rfl
  | true => rw [← hx]; exact O.asymm _ _ hx

theorem el_append_right (l : List α) (x : α) : el (l ++ [x]) l.length = x := by
  unfold el
  simp

theorem upInv_push {lt : α → α → Bool} {l : List α} (x : α) (h : IsHeap lt l) : UpInv lt (l ++ [x]) (l.length + 1) l.length := by
  refine ⟨fun k k0 kn ke => ?_, fun k k0 kn kp _ => by omega⟩
  have hk : k < l.length := by omega
  have := h k k0 hk (Nat.zero_le _)
  unfold okAt at this ⊢
  rw [el_append_left _ _ _ hk, el_append_left _ _ _ (by omega)]
  exact this

theorem downInv_pop {lt : α → α → Bool} {l : List α} {n i : Nat} (hl : l.length = n + 1) (hi : i < n) (O : Ord lt) (h : IsHeap lt l) : DownInv lt 0 i (swp l i n) n i := by
  refine ⟨fun k k0 kn _ kp kor => ?_, fun k k0 kn kp i0 _ => ?_⟩
  · have h1 := h k k0 (by omega) (Nat.zero_le _)
    unfold okAt at h1 ⊢
    rw [el_swp _ _ _ _ (by omega) (by omega), el_swp _ _ _ _ (by omega) (by omega), if_neg (by omega), if_neg (by omega), if_neg (by omega), if_neg kp]
    exact h1
  · rw [el_swp _ _ _ _ (by omega) (by omega), el_swp _ _ _ _ (by omega) (by omega), if_neg (by omega), if_neg (by omega), if_neg (by omega), if_neg (by omega)]
    have h1 := h k k0 (by omega) (Nat.zero_le _)
    have h2 := h i i0 (by omega) (Nat.zero_le _)
    unfold okAt at h1 h2
    rw [kp] at h1
    exact O.trans _ _ _ h2 h1

theorem upInv_remove {lt : α → α → Bool} {l : List α} {n i : Nat} (hl : l.length = n + 1) (hi : i < n) (O : Ord lt) (h : IsHeap lt l)
    (hok : ∀ k, 0 < k → k < n → 0 ≤ (k - 1) / 2 → k ≠ i → okAt lt (swp l i n) k) : UpInv lt (swp l i n) n i :=
  ⟨fun k k0 kn ke => hok k k0 kn (Nat.zero_le _) ke, fun k k0 kn kp i0 => (downInv_pop hl hi O h).2 k k0 kn kp i0 (Nat.zero_le _)⟩

theorem split_last {l : List α} {n : Nat} (hl : l.length = n + 1) : l = l.take n ++ [el l n] := by
  refine ext_el (by simp; omega) fun k hk => ?_
  by_cases hkn : k < n
  · rw [el_append_left _ _ _ (by simp; omega)]
    unfold el
    rw [List.getD_eq_getElem?_getD, List.getD_eq_getElem?_getD, List.getElem?_take, if_pos hkn]
  · have : k = n := by omega
    subst this
    have := el_append_right (l.take k) (el l k)
    rw [List.length_take, show min k l.length = k by omega] at this
    exact this.symm

theorem el_take {l : List α} {n k : Nat} (hk : k < n) : el (l.take n) k = el l k := by
  unfold el
  rw [List.getD_eq_getElem?_getD, List.getD_eq_getElem?_getD, List.getElem?_take, if_pos hk]

theorem isHeap_take {lt : α → α → Bool} {l : List α} {n : Nat} (hn : n ≤ l.length) (h : HeapTo lt 0 l n) : IsHeap lt (l.take n) := by
  intro k k0 kn _
  rw [List.length_take, show min n l.length = n by omega] at kn
  have := h k k0 kn (Nat.zero_le _)
  unfold okAt at this ⊢
  rw [el_take kn, el_take (by omega)]
  exact this

theorem downInv_init {lt : α → α → Bool} {l : List α} {n i : Nat} (h : HeapTo lt (i + 1) l n) : DownInv lt i i l n i :=
  ⟨fun k k0 kn kl ki _ => h k k0 kn (by omega), fun k _ _ _ _ _ => by omega⟩

theorem heapTo_of_post {lt : α → α → Bool} {l : List α} {n i : Nat} (h : ∀ k, 0 < k → k < n → i ≤ (k - 1) / 2 → k ≠ i → okAt lt l k) : HeapTo lt i l n :=
  fun k k0 kn kl => h k k0 kn kl (by omega)

theorem heapTo_half {lt : α → α → Bool} (l : List α) (n : Nat) : HeapTo lt (n / 2) l n := fun k _ _ _ => by omega

theorem isHeap_nil {lt : α → α → Bool} : IsHeap lt ([] : List α) := fun k _ hk => by simp at hk

end Go.Proofs.YtlocadmiomglaaaGreatDoor.HL

/- Frames: which blocks of memory a call may have changed; rows of cells; small facts (no function of the program is named). -/
namespace Go.Proofs.YtlocadmiomglaaaGreatDoor
open Go.RowKit

/-- Only blocks in S, and new ones, may have changed. -/
structure Fr (S : Nat → Prop) (w w' : World) : Prop where
  os : w'.os = w.os
  tape : w'.tape = w.tape
  output : w'.output = w.output
  size : w.heap.size ≤ w'.heap.size
  block : ∀ k, k < w.heap.size → ¬ S k → w'.heap[k]? = w.heap[k]?

section
variable {S T : Nat → Prop} {w w1 w2 : World}
theorem Fr.refl (S : Nat → Prop) (w : World) : Fr S w w := ⟨rfl, rfl, rfl, Nat.le_refl _, fun _ _ _ => rfl⟩
theorem Fr.trans (h : Fr S w w1) (k : Fr T w1 w2) (hT : ∀ i, T i → i < w.heap.size → S i) : Fr S w w2 :=
  ⟨k.os.trans h.os, k.tape.trans h.tape, k.output.trans h.output, Nat.le_trans h.size k.size, fun i hi hs =>
    (k.block i (Nat.lt_of_lt_of_le hi h.size) (fun t => hs (hT i t hi))).trans (h.block i hi hs)⟩
theorem Fr.mono (h : Fr S w w1) (hT : ∀ i, i < w.heap.size → S i → T i) : Fr T w w1 :=
  ⟨h.os, h.tape, h.output, h.size, fun i hi hs => h.block i hi (fun s => hs (hT i hi s))⟩
theorem Fr.drew (h : Fr S w w1) : Fr S w w1.drew := ⟨h.os, h.tape, h.output, h.size, h.block⟩
theorem Fr.drewN (h : Fr S w w1) (n : Nat) : Fr S w (w1.drewN n) := ⟨h.os, h.tape, h.output, h.size, h.block⟩
theorem Fr.alloc (h : Fr S w w1) (o : Obj) : Fr S w (w1.alloc o) :=
  ⟨h.os, h.tape, h.output, Nat.le_trans h.size (by simp), fun i hi hs => (Below.heap_alloc w1 o i (Nat.lt_of_lt_of_le hi h.size)).trans (h.block i hi hs)⟩
theorem Fr.setCell (h : Fr S w w1) {p : Addr} (hp : p.block < w.heap.size → S p.block) (u : Value) : Fr S w (w1.setCell p u) :=
  ⟨h.os, h.tape, h.output, by simpa [World.setCell] using h.size, fun i hi hs => (Below.heap_setCell w1 p u i (by
    rintro rfl
    exact hs (hp hi))).trans (h.block i hi hs)⟩
theorem Fr.of_below {B : Nat} (h : Below B w w1) (hS : ∀ i, i < w.heap.size → B ≤ i → S i) : Fr S w w1 :=
  ⟨h.os, h.tape, h.output, h.size, fun i hi hs => h.block i (by rcases Nat.lt_or_ge i B with g | g; exact g; exact absurd (hS i hi g) hs)⟩
theorem Fr.of_all (h : Below w.heap.size w w1) : Fr S w w1 := Fr.of_below h (fun i hi hb => by omega)
theorem Fr.of_grown {row : Option Nat} (h : w.grownBy w1 row) (hS : ∀ i, i < w.heap.size → row = some i → S i) : Fr S w w1 :=
  ⟨h.os, h.tape, h.output, h.size, fun i hi hs => h.block i hi (fun e => hs (hS i hi e.symm))⟩
theorem Fr.below {B : Nat} (h : Fr S w w1) (hB : B ≤ w.heap.size) (hS : ∀ i, S i → B ≤ i) : Below B w w1 :=
  ⟨h.os, h.tape, h.output, h.size, fun i hi => h.block i (by omega) (fun s => by have := hS i s; omega)⟩
theorem Fr.cell (h : Fr S w w1) {p : Addr} (hp : p.block < w.heap.size) (hs : ¬ S p.block) : w1.cell? p = w.cell? p := World.cell?_of_block (h.block _ hp hs)
theorem Fr.frozen (h : Fr S w w1) {p : Addr} (hp : p.block < w.heap.size) (hs : ¬ S p.block) : w1.frozen? p = w.frozen? p := World.frozen?_of_block (h.block _ hp hs)
theorem Fr.grown {row : Option Nat} (h : Fr S w w1) (hS : ∀ i, S i → row = some i) : w.grownBy w1 row :=
  ⟨h.os, h.tape, h.output, h.size, fun i hi hne => h.block i hi (fun s => hne (hS i s).symm)⟩
theorem Fr.owns {base : Nat} {e : TypeId} {size n : Nat} {v : Value} {xs : List Value} (h : Fr S w w1) (ho : w.ownsRow base e size v n xs) (hS : ∀ g, v.ownBlock = some g → ¬ S g) : w1.ownsRow base e size v n xs := by
  refine ⟨ho.1, ?_⟩
  rcases ho.2 with hv | ⟨g, cap, cur, hv, hb, hg, hrest⟩
  · exact .inl hv
  · refine .inr ⟨g, cap, cur, hv, hb, ?_, hrest⟩
    have hlt : g < w.heap.size := by
      rcases Nat.lt_or_ge g w.heap.size with h | h
      · exact h
      · rw [Array.getElem?_eq_none h] at hg; cases hg
    rw [h.block g hlt (hS g (by rw [hv]; rfl))]
    exact hg
end

theorem cell_lt {w : World} {p : Addr} {v : Value} (h : w.cell? p = some v) : p.block < w.heap.size := by
  rcases Nat.lt_or_ge p.block w.heap.size with g | g
  · exact g
  · unfold World.cell? at h
    rw [Array.getElem?_eq_none g] at h
    cases h

/-- A region whose head only reads or calls quietly, and whose tail goes in one order: the world behind the draw is any that S holds of. -/
theorem region_tail {P : Program} {id : Nat} {Q : Exit → Act → World → Prop} {a : Act} {w : World} {l : List Oper} (n : Nat) (hm : P.follows .mixedOrders = true) (hB : Region.lexTailB .any l.toArray n = true)
    (S : World → Prop) (hS : S w.drew) (h : ∀ V, S V → wpStill P l.toArray V (fun a' => wpList P l.toArray Q (l.drop n) a' V) (l.take n) a) : (Code.region id l.toArray true).wp P Q a w :=
  wp_region_still_tail n hm hB (h _ hS)

/-- A region that only reads or calls quietly, in the order of the text. -/
theorem region_all {P : Program} {id : Nat} {Q : Exit → Act → World → Prop} {a : Act} {w : World} {l : List Oper} (hm : P.follows .mixedOrders = true) (hB : Region.lexB .any l.toArray = true)
    (S : World → Prop) (hS : S w.drew) (h : ∀ V, S V → wpStill P l.toArray V (fun a' => Q .normal a' V) l a) : (Code.region id l.toArray true).wp P Q a w :=
  wp_region_still_lit hm hB (h _ hS)

theorem still_of {P : Program} {f : FuncId} {args : Array Value} {w : World} {v : Value} (h : Calls P f args w fun e w' => e = .returned v ∧ w = w') : Calls P f args w fun e w' => e = .returned v ∧ w' = w :=
  h.mono fun _ _ ⟨a, b⟩ => ⟨a, b.symm⟩

/-- The cells of a list of things of 'size' cells each. -/
def rowOf {α : Type} (f : α → List Value) (l : List α) : List Value := l.flatMap f

section
variable {α : Type} [Inhabited α] (f : α → List Value) {size : Nat}
omit [Inhabited α] in
theorem rowOf_length (hf : ∀ x, (f x).length = size) (l : List α) : (rowOf f l).length = l.length * size := by
  induction l with
  | nil => simp [rowOf]
  | cons x l ih => simp only [rowOf, List.flatMap_cons, List.length_append, List.length_cons] at *; rw [ih, hf, Nat.succ_mul]; omega
omit [Inhabited α] in
theorem rowOf_append (l m : List α) : rowOf f (l ++ m) = rowOf f l ++ rowOf f m := by simp [rowOf]
omit [Inhabited α] in
theorem rowOf_one (x : α) : rowOf f [x] = f x := by simp [rowOf]
theorem rowOf_at (hf : ∀ x, (f x).length = size) (l : List α) (k c : Nat) (hk : k < l.length) (hc : c < size) : (rowOf f l)[k * size + c]? = (f (l.getD k default))[c]? := by
  induction l generalizing k with
  | nil => simp at hk
  | cons x l ih =>
    cases k with
    | zero => simp only [rowOf, List.flatMap_cons, Nat.zero_mul, Nat.zero_add, List.getD_cons_zero]; rw [List.getElem?_append_left (by rw [hf]; exact hc)]
    | succ k =>
      simp only [rowOf, List.flatMap_cons, List.getD_cons_succ]
      rw [List.getElem?_append_right (by rw [hf, Nat.succ_mul]; omega), hf, show (k + 1) * size + c - size = k * size + c by rw [Nat.succ_mul]; omega]
      exact ih k (by simpa using hk)
end

theorem owns_len {w : World} {base : Nat} {e : TypeId} {size n : Nat} {v : Value} {xs : List Value} (h : w.ownsRow base e size v n xs) (hn : 0 < n) : ∃ g cap, v = .slice (some ⟨g, 0, none⟩) n cap ∧ base ≤ g ∧ g < w.heap.size ∧ n ≤ cap := by
  rcases h.2 with ⟨_, h0⟩ | ⟨g, cap, cur, hv, hb, hg, hc, _⟩
  · omega
  · refine ⟨g, cap, hv, hb, ?_, hc⟩
    rcases Nat.lt_or_ge g w.heap.size with h | h
    · exact h
    · rw [Array.getElem?_eq_none h] at hg; cases hg

/-- An owned row's slice, whatever it is: its parts. -/
theorem owns_slice {w : World} {base : Nat} {e : TypeId} {size n : Nat} {v : Value} {xs : List Value} (h : w.ownsRow base e size v n xs) : ∃ p cap, v = .slice p n cap := by
  rcases h.2 with ⟨hv, h0⟩ | ⟨g, cap, cur, hv, _⟩
  · exact ⟨none, 0, by rw [hv, h0]⟩
  · exact ⟨_, cap, hv⟩

theorem new_cells (w : World) (cs : List Value) (t : TypeId) : ∀ j u, cs[j]? = some u → (w.alloc (.cells cs.toArray t)).cell? ((⟨w.heap.size, 0, none⟩ : Addr).add j) = some u := by
  intro j u hu
  have h : (w.alloc (.cells cs.toArray t)).heap[w.heap.size]? = some (.cells cs.toArray t (0, 0)) := heap_alloc_new w _
  have e : ((⟨w.heap.size, 0, none⟩ : Addr).add j) = ⟨w.heap.size, j, none⟩ := by
    unfold Addr.add
    split
    · rename_i h0; rw [h0]
    · simp
  rw [e, cell_of_row _ _ _ _ _ _ h]
  simpa using hu

/-- Where an appended row lies: where it lay, or in a new block. -/
def Lies (v : Value) (g H : Nat) : Prop := v.ownBlock = some g ∨ H ≤ g

/-- Behind an append to a row, one block laid ahead of it: a block that is not the row's is as it was. -/
theorem push_facts {w w1 : World} {o : Obj} {v : Value} {ab : Nat} (hlt : ab < w.heap.size) (hne : v.ownBlock ≠ some ab) (hgr : (w.alloc o).drew.grownBy w1 v.ownBlock) : w1.heap[ab]? = w.heap[ab]? ∧ Fr (fun k => k = ab ∨ v.ownBlock = some k) w w1 :=
  ⟨(hgr.block ab (by simp; omega) (fun e => hne e.symm)).trans (Below.heap_alloc w o ab hlt), Fr.trans (((Fr.refl _ w).alloc _).drew) (Fr.of_grown hgr (fun i _ h => h)) (fun i h _ => .inr h)⟩

theorem cell_set_same (w : World) (p : Addr) (u v : Value) (h : w.cell? p = some v) : (w.setCell p u).cell? p = some u := by
  unfold World.cell? at h
  unfold World.cell? World.setCell
  simp only [Array.getElem?_modify, if_true]
  cases hb : w.heap[p.block]? with
  | none => rw [hb] at h; cases h
  | some o =>
    rw [hb] at h
    cases o with
    | cells c e fz =>
      simp only [] at h
      by_cases hs : p.spot.isSome = true
      · simp [hs] at h
      · simp only [hs] at h
        have hlt := (Array.getElem?_eq_some_iff.1 h).1
        simp [hs, hlt]
    | _ => cases h

theorem frozen_set (w : World) (p q : Addr) (u : Value) : (w.setCell p u).frozen? q = w.frozen? q := by
  unfold World.frozen? World.setCell
  simp only [Array.getElem?_modify]
  by_cases h : p.block = q.block
  · simp only [h, if_true]
    cases w.heap[q.block]? with
    | none => rfl
    | some o => cases o <;> rfl
  · simp only [h, if_false]

/-- In block b all cells but that at o are as they were. -/
def Others (b o : Nat) (w w' : World) : Prop := ∀ k, k ≠ o → w'.cell? ⟨b, k, none⟩ = w.cell? ⟨b, k, none⟩ ∧ w'.frozen? ⟨b, k, none⟩ = w.frozen? ⟨b, k, none⟩

theorem Others.trans {b o : Nat} {w w1 w2 : World} (h : Others b o w w1) (k : Others b o w1 w2) : Others b o w w2 := fun i hi => ⟨(k i hi).1.trans (h i hi).1, (k i hi).2.trans (h i hi).2⟩
theorem Others.of_block {b o : Nat} {w w1 : World} (h : w1.heap[b]? = w.heap[b]?) : Others b o w w1 := fun _ _ => ⟨World.cell?_of_block h, World.frozen?_of_block h⟩
theorem Others.set (b o : Nat) (w : World) (u : Value) : Others b o w (w.setCell ⟨b, o, none⟩ u) := fun k hk =>
  ⟨World.cell?_setCell_other _ _ _ _ (by intro e; injection e with _ h _; omega), frozen_set _ _ _ _⟩

/-- What is left by 'x.f = append(x.f, ..)': the slot holds the grown slice, the row is owned. -/
theorem push_end {w w1 : World} {v : Value} {base : Nat} {e : TypeId} {size n' g cap H : Nat} {xs : List Value} {ab ao : Nat} (hlt : ab < w.heap.size) (hne : v.ownBlock ≠ some ab) (hpf : w1.heap[ab]? = w.heap[ab]? ∧ Fr (fun k => k = ab ∨ v.ownBlock = some k) w w1)
    (hown : w1.ownsRow base e size (.slice (some ⟨g, 0, none⟩) n' cap) n' xs) (hat : v.ownBlock = some g ∨ g = H) (hH : w.heap.size ≤ H) {u : Value} (hc : w1.cell? ⟨ab, ao, none⟩ = some u) (hf : w1.frozen? ⟨ab, ao, none⟩ = false) :
    (w1.setCell ⟨ab, ao, none⟩ (.slice (some ⟨g, 0, none⟩) n' cap)).cell? ⟨ab, ao, none⟩ = some (.slice (some ⟨g, 0, none⟩) n' cap) ∧ (w1.setCell ⟨ab, ao, none⟩ (.slice (some ⟨g, 0, none⟩) n' cap)).frozen? ⟨ab, ao, none⟩ = false ∧
      (w1.setCell ⟨ab, ao, none⟩ (.slice (some ⟨g, 0, none⟩) n' cap)).ownsRow base e size (.slice (some ⟨g, 0, none⟩) n' cap) n' xs ∧
      Fr (fun k => k = ab ∨ v.ownBlock = some k) w (w1.setCell ⟨ab, ao, none⟩ (.slice (some ⟨g, 0, none⟩) n' cap)) ∧ Lies v g w.heap.size ∧ g ≠ ab ∧ Others ab ao w (w1.setCell ⟨ab, ao, none⟩ (.slice (some ⟨g, 0, none⟩) n' cap)) := by
  obtain ⟨hblk, hfr⟩ := hpf
  have hg : g ≠ ab := by
    rintro rfl
    rcases hat with h | h
    · exact hne h
    · omega
  refine ⟨cell_set_same _ _ _ _ hc, by rw [frozen_set]; exact hf, ?_, hfr.setCell (fun _ => .inl rfl) _, hat.imp id (fun h => by omega), hg, (Others.of_block hblk).trans (Others.set _ _ _ _)⟩
  refine ((Fr.refl (fun k => k = ab) w1).setCell (p := ⟨ab, ao, none⟩) (fun _ => rfl) _).owns hown ?_
  intro g' h'
  have : g = g' := by simpa [Value.ownBlock] using h'
  subst this
  exact hg

theorem rowOf_set3 {α : Type} (f : α → List Value) (hf : ∀ x, (f x).length = 3) (l : List α) (k : Nat) (x : α) (a b c : Value) (hx : f x = [a, b, c]) (hk : k < l.length) :
    (((rowOf f l).set (k * 3) a).set (k * 3 + 1) b).set (k * 3 + 2) c = rowOf f (l.set k x) := by
  induction l generalizing k with
  | nil => simp at hk
  | cons y l ih =>
    cases k with
    | zero =>
      have hy := hf y
      match hfy : f y, hy with
      | [p, q, r], _ => simp [rowOf, hfy, hx]
    | succ k =>
      have h1 : rowOf f (y :: l) = f y ++ rowOf f l := by simp [rowOf]
      have h2 : rowOf f ((y :: l).set (k + 1) x) = f y ++ rowOf f (l.set k x) := by simp [rowOf]
      rw [h1, h2, ← ih k (by simpa using hk)]
      have hl := hf y
      rw [List.set_append_right _ _ (by omega), List.set_append_right _ _ (by omega), List.set_append_right _ _ (by omega), hl,
        show (k + 1) * 3 - 3 = k * 3 by omega, show (k + 1) * 3 + 1 - 3 = k * 3 + 1 by omega, show (k + 1) * 3 + 2 - 3 = k * 3 + 2 by omega]

theorem rowOf_set1 {α : Type} (f : α → List Value) (hf : ∀ x, (f x).length = 1) (l : List α) (k : Nat) (x : α) (a : Value) (hx : f x = [a]) (hk : k < l.length) :
    (rowOf f l).set k a = rowOf f (l.set k x) := by
  induction l generalizing k with
  | nil => simp at hk
  | cons y l ih =>
    cases k with
    | zero =>
      have hy := hf y
      match hfy : f y, hy with
      | [p], _ => simp [rowOf, hfy, hx]
    | succ k =>
      have h1 : rowOf f (y :: l) = f y ++ rowOf f l := by simp [rowOf]
      have h2 : rowOf f ((y :: l).set (k + 1) x) = f y ++ rowOf f (l.set k x) := by simp [rowOf]
      rw [h1, h2, ← ih k (by simpa using hk)]
      have hl := hf y
      rw [List.set_append_right _ _ (by omega), hl, show (k + 1) - 1 = k by omega]

theorem rowOf_set4 {α : Type} (f : α → List Value) (hf : ∀ x, (f x).length = 4) (l : List α) (k : Nat) (x : α) (a b c d : Value) (hx : f x = [a, b, c, d]) (hk : k < l.length) :
    ((((rowOf f l).set (k * 4) a).set (k * 4 + 1) b).set (k * 4 + 2) c).set (k * 4 + 3) d = rowOf f (l.set k x) := by
  induction l generalizing k with
  | nil => simp at hk
  | cons y l ih =>
    cases k with
    | zero =>
      have hy := hf y
      match hfy : f y, hy with
      | [p, q, r, s], _ => simp [rowOf, hfy, hx]
    | succ k =>
      have h1 : rowOf f (y :: l) = f y ++ rowOf f l := by simp [rowOf]
      have h2 : rowOf f ((y :: l).set (k + 1) x) = f y ++ rowOf f (l.set k x) := by simp [rowOf]
      rw [h1, h2, ← ih k (by simpa using hk)]
      have hl := hf y
      rw [List.set_append_right _ _ (by omega), List.set_append_right _ _ (by omega), List.set_append_right _ _ (by omega), List.set_append_right _ _ (by omega), hl,
        show (k + 1) * 4 - 4 = k * 4 by omega, show (k + 1) * 4 + 1 - 4 = k * 4 + 1 by omega, show (k + 1) * 4 + 2 - 4 = k * 4 + 2 by omega, show (k + 1) * 4 + 3 - 4 = k * 4 + 3 by omega]

end Go.Proofs.YtlocadmiomglaaaGreatDoor

/- container/heap's up and down over any value of heap.Interface whose Len, Less and Swap meet their contracts: what they leave is a rearrangement, and in order. -/
namespace Go.Proofs.YtlocadmiomglaaaGreatDoor
open Go.RowKit

/-- A method is called on an interface value: R holds of what it returns. -/
def InvC (P : Program) (it : Value) (name : String) (args : Array Value) (w : World) (R : Value → World → Prop) : Prop :=
  ∃ f args', (invoke (.fn (.method name) #[]) (#[it] ++ args)).run P w = .ok (.enter f args') w ∧ Calls P f args' w fun e w' => ∃ v, e = .returned v ∧ R v w'

theorem InvC.mono {P : Program} {it : Value} {name : String} {args : Array Value} {w : World} {R R' : Value → World → Prop} (h : InvC P it name args w R) (hR : ∀ v w', R v w' → R' v w') : InvC P it name args w R' := by
  obtain ⟨f, xs, h1, h2⟩ := h
  exact ⟨f, xs, h1, h2.mono fun e w' ⟨v, he, hr⟩ => ⟨v, he, hR v w' hr⟩⟩

theorem wpList_invoke {P : Program} {ops : Array Oper} {rest : List Oper} {o : Oper} {a : Act} {w : World} {Q : Exit → Act → World → Prop} (r : Operand) (name : String) (args : Array Operand) (ts : Array TypeId)
    (ho : o.op = .call { callee := .invoke r name, args := args, argTypes := ts }) (hw : Region.wanted o (yielded ops a.tmps) = true)
    (it : Value) (vs : Array Value) (hit : a.eval r = it) (hvs : args.map a.eval = vs) {R : Value → World → Prop} (hI : InvC P it name vs w R)
    (h : ∀ v w', R v w' → wpList P ops Q rest (a.put o.dst v) w') : wpList P ops Q (o :: rest) a w := by
  refine wpList_step fun K hK => ?_
  rw [if_pos hw]
  obtain ⟨f, xs, h1, h2⟩ := hI
  unfold Oper.wp execOp
  simp only [ho, resolve, Sem.run_bind, Sem.run_pure, Result.andThen_ok, hit, hvs, h1]
  simp only [Oper.upon]
  exact h2.mono fun e w' ⟨v, he, hr⟩ => by subst he; exact hK _ _ (h v w' hr)

section
variable {P : Program} {ops : Array Oper} {rest : List Oper} {a : Act} {w : World} {Q : Exit → Act → World → Prop} {it v1 v2 : Value} {name : String} {R : Value → World → Prop}
  {r x1 x2 : Operand} {ts : Array TypeId} {d : Option Tmp} {ty : TypeId} {pos : String} {af : Array Edge} {g : Option (Nat × Bool)}
theorem wpI0 (hI : InvC P it name #[] w R) (hw : Region.wanted ⟨d, .call { callee := .invoke r name, args := #[], argTypes := ts }, ty, pos, af, g⟩ (yielded ops a.tmps) = true) (hit : a.eval r = it)
    (h : ∀ v w', R v w' → wpList P ops Q rest (a.put d v) w') : wpList P ops Q (⟨d, .call { callee := .invoke r name, args := #[], argTypes := ts }, ty, pos, af, g⟩ :: rest) a w :=
  wpList_invoke r name #[] ts rfl hw it #[] hit (by simp) hI h
theorem wpI1 (hI : InvC P it name #[v1] w R) (hw : Region.wanted ⟨d, .call { callee := .invoke r name, args := #[x1], argTypes := ts }, ty, pos, af, g⟩ (yielded ops a.tmps) = true) (hit : a.eval r = it) (h1 : a.eval x1 = v1)
    (h : ∀ v w', R v w' → wpList P ops Q rest (a.put d v) w') : wpList P ops Q (⟨d, .call { callee := .invoke r name, args := #[x1], argTypes := ts }, ty, pos, af, g⟩ :: rest) a w :=
  wpList_invoke r name #[x1] ts rfl hw it #[v1] hit (by simp [h1]) hI h
theorem wpI2 (hI : InvC P it name #[v1, v2] w R) (hw : Region.wanted ⟨d, .call { callee := .invoke r name, args := #[x1, x2], argTypes := ts }, ty, pos, af, g⟩ (yielded ops a.tmps) = true) (hit : a.eval r = it) (h1 : a.eval x1 = v1) (h2 : a.eval x2 = v2)
    (h : ∀ v w', R v w' → wpList P ops Q rest (a.put d v) w') : wpList P ops Q (⟨d, .call { callee := .invoke r name, args := #[x1, x2], argTypes := ts }, ty, pos, af, g⟩ :: rest) a w :=
  wpList_invoke r name #[x1, x2] ts rfl hw it #[v1, v2] hit (by simp [h1, h2]) hI h
end

/-- A heap.Interface value whose Len, Less and Swap mean a list l, wherever I l holds; F: what else may have changed. -/
structure HeapRep (P : Program) (it : Value) {α : Type} [Inhabited α] (lt : α → α → Bool) (I : List α → World → Prop) (F : World → World → Prop) : Prop where
  refl : ∀ w, F w w
  trans : ∀ w1 w2 w3, F w1 w2 → F w2 w3 → F w1 w3
  ord : HL.Ord lt
  small : ∀ l w, I l w → l.length ≤ 1000000
  len : ∀ l w, I l w → InvC P it "Len" #[] w fun v w' => v = .int .i64 l.length ∧ I l w' ∧ F w w'
  less : ∀ l w, I l w → ∀ i j : Int, 0 ≤ i → i < l.length → 0 ≤ j → j < l.length → InvC P it "Less" #[.int .i64 i, .int .i64 j] w fun v w' => v = .bool (lt (HL.el l i.toNat) (HL.el l j.toNat)) ∧ I l w' ∧ F w w'
  swap : ∀ l w, I l w → ∀ i j : Int, 0 ≤ i → i < l.length → 0 ≤ j → j < l.length → InvC P it "Swap" #[.int .i64 i, .int .i64 j] w fun _ w' => I (HL.swp l i.toNat j.toNat) w' ∧ F w w'

/-- What holds of the list as 'up' goes on. -/
def UpRel {α : Type} [Inhabited α] (lt : α → α → Bool) (I : List α → World → Prop) (F : World → World → Prop) (l0 : List α) (w : World) (n : Nat) (j : Nat) (wr : World) : Prop :=
  ∃ l, I l wr ∧ F w wr ∧ l.Perm l0 ∧ HL.UpInv lt l n j ∧ ∀ k, n ≤ k → HL.el l k = HL.el l0 k

theorem UpRel.step {it : Value} {α : Type} [Inhabited α] {lt : α → α → Bool} {I : List α → World → Prop} {F : World → World → Prop} (H : HeapRep Tryz.prog it lt I F) {l0 l : List α} {w w1 w2 : World} {n j : Nat}
    (hn : n ≤ l0.length) (hj : j < n) (h0 : 0 < j) (hF : F w w1) (hp : l.Perm l0) (hu : HL.UpInv lt l n j) (hk : ∀ k, n ≤ k → HL.el l k = HL.el l0 k)
    (hl : lt (HL.el l j) (HL.el l ((j - 1) / 2)) = true) (hI : I (HL.swp l ((j - 1) / 2) j) w2) (hF' : F w1 w2) : UpRel lt I F l0 w n ((j - 1) / 2) w2 := by
  have hl0 := hp.length_eq
  refine ⟨_, hI, H.trans _ _ _ hF hF', (HL.swp_perm _ _ _ (by omega) (by omega)).trans hp, hu.step H.ord (by omega) hj h0 hl, fun k kn => ?_⟩
  rw [HL.el_swp _ _ _ _ (by omega) (by omega), if_neg (by omega), if_neg (by omega)]
  exact hk k kn

set_option maxHeartbeats 400000 in
theorem heap_up {it : Value} {α : Type} [Inhabited α] {lt : α → α → Bool} {I : List α → World → Prop} {F : World → World → Prop} (H : HeapRep Tryz.prog it lt I F)
    (l0 : List α) (w : World) (h0 : I l0 w) (n : Nat) (hn : n ≤ l0.length) (j : Int) (hj0 : 0 ≤ j) (hj : j < n) (hu : HL.UpInv lt l0 n j.toNat) :
    Calls Tryz.prog 214 #[it, .int .i64 j] w fun e w' => e = .returned (.tuple #[]) ∧ ∃ l, I l w' ∧ F w w' ∧ l.Perm l0 ∧ HL.HeapTo lt 0 l n ∧ ∀ k, n ≤ k → HL.el l k = HL.el l0 k := by
  obtain ⟨j, rfl⟩ := Int.eq_ofNat_of_zero_le hj0
  simp only [Int.toNat_natCast] at hu
  have HS := Lib.hid H; clear H
  have hs0 := HS.out.small _ _ h0
  have hst : UpRel lt I F l0 w n j w := ⟨l0, h0, HS.out.refl _, List.Perm.refl _, hu, fun _ _ => rfl⟩
  have HST := Lib.hid hst; clear hst h0 hu
  have hj1 : j < n := by omega
  clear hj
  go_enter Tryz.func214, Tryz.ntmps214
  go_wp2
  go_loopw [1, 4] (fun jv _ wr => ∃ i : Nat, i < n ∧ jv = .int .i64 i ∧ UpRel lt I F l0 w n i wr) (fun jv _ _ => (intOf jv).toNat)
  case atStart => exact ⟨j, hj1, rfl, HST.out⟩
  case round =>
    clear HST hj1 hj0
    obtain ⟨i, hi, rfl, l, hI, hF, hp, hu, hk⟩ := hrel
    have hl0 : l.length ≤ l0.length := Nat.le_of_eq hp.length_eq
    have hl1 : l0.length ≤ l.length := Nat.le_of_eq hp.length_eq.symm
    have HK := Lib.hid hk; clear hk
    have HU := Lib.hid hu; clear hu
    by_cases hi0 : i = 0
    · subst hi0
      go_wp2
      go_end0
      exact ⟨rfl, l, hI, hF, hp, HU.out.done (.inl rfl), HK.out⟩
    · obtain ⟨m, rfl⟩ : ∃ m, i = m + 1 := ⟨i - 1, by omega⟩
      clear hi0
      have e2 : ((m : Int) / 2 == (m : Int) + 1) = false := by rw [beq_eq_false_iff_ne]; omega
      have hb : (m : Int) ≤ 1000000 := by omega
      have hm2 : ((m : Int) / 2).toNat = (m + 1 - 1) / 2 := by omega
      have hL := HS.out.less l wr hI (m + 1) ((m : Int) / 2) (by omega) (by omega) (by omega) (by omega)
      rw [hm2, show ((m : Int) + 1).toNat = m + 1 by omega] at hL
      have HM2 := Lib.hid hm2; clear hm2
      cases hlt : lt (HL.el l (m + 1)) (HL.el l ((m + 1 - 1) / 2)) with
      | false =>
        rw [hlt] at hL
        have HL' := Lib.hid hL; clear hL
        have HLT := Lib.hid hlt; clear hlt
        go_wp2_with ((with_reducible refine wpI2 HL'.out ?_ ?_ ?_ ?_ ?_); rfl; rfl; rfl; rfl; rintro v w1 ⟨rfl, hI1, hF1⟩)
        go_end0
        exact ⟨rfl, l, hI1, HS.out.trans _ _ _ hF hF1, hp, HU.out.done (.inr HLT.out), HK.out⟩
      | true =>
        rw [hlt] at hL
        have HL' := Lib.hid hL; clear hL
        have HLT := Lib.hid hlt; clear hlt
        have HSW := Lib.hid (fun w1 (h : I l w1) => HS.out.swap l w1 h ((m : Int) / 2) (m + 1) (by omega) (by omega) (by omega) (by omega))
        go_wp2_with (first | ((with_reducible refine wpI2 HL'.out ?_ ?_ ?_ ?_ ?_); rfl; rfl; rfl; rfl; rintro v w1 ⟨rfl, hI1, hF1⟩) | ((with_reducible refine wpI2 (HSW.out _ hI1) ?_ ?_ ?_ ?_ ?_); rfl; rfl; rfl; rfl; rintro v w2 ⟨hI2, hF2⟩))
        rw [HM2.out, show ((m : Int) + 1).toNat = m + 1 by omega] at hI2
        go_roundw
        case rel => exact ⟨(m + 1 - 1) / 2, by omega, by rw [show ((m : Int) / 2) = (((m + 1 - 1) / 2 : Nat) : Int) by omega], UpRel.step HS.out hn hi (by omega) (HS.out.trans _ _ _ hF hF1) hp HU.out HK.out HLT.out hI2 hF2⟩
        case measure => simp [intOf]; omega
end Go.Proofs.YtlocadmiomglaaaGreatDoor

/- container/heap's down over any value of heap.Interface whose Len, Less and Swap meet their contracts. -/
namespace Go.Proofs.YtlocadmiomglaaaGreatDoor
open Go.RowKit

/-- What holds of the list as 'down' goes on. -/
def DownRel {α : Type} [Inhabited α] (lt : α → α → Bool) (I : List α → World → Prop) (F : World → World → Prop) (l0 : List α) (w : World) (lo n i0 i : Nat) (wr : World) : Prop :=
  ∃ l, I l wr ∧ F w wr ∧ l.Perm l0 ∧ HL.DownInv lt lo i0 l n i ∧ (∀ k, n ≤ k → HL.el l k = HL.el l0 k) ∧ (i = i0 → l = l0)

/-- What 'down' leaves. -/
def DownPost {α : Type} [Inhabited α] (lt : α → α → Bool) (I : List α → World → Prop) (F : World → World → Prop) (l0 : List α) (w : World) (lo n i0 : Nat) (e : Ending) (w' : World) : Prop :=
  ∃ l b, e = .returned (.bool b) ∧ I l w' ∧ F w w' ∧ l.Perm l0 ∧ (∀ k, n ≤ k → HL.el l k = HL.el l0 k) ∧ (b = false → l = l0 ∧ ∀ k, 0 < k → k < n → lo ≤ (k - 1) / 2 → k ≠ i0 → HL.okAt lt l k) ∧ (b = true → HL.HeapTo lt lo l n)

theorem DownRel.step {it : Value} {α : Type} [Inhabited α] {lt : α → α → Bool} {I : List α → World → Prop} {F : World → World → Prop} (H : HeapRep Tryz.prog it lt I F) {l0 l : List α} {w w1 w2 : World} {lo n i0 i c : Nat}
    (hn : n ≤ l0.length) (hi : i0 ≤ i) (hF : F w w1) (hp : l.Perm l0) (hd : HL.DownInv lt lo i0 l n i) (hk : ∀ k, n ≤ k → HL.el l k = HL.el l0 k) (hc : 2 * i + 1 < n) (hcc : HL.kid lt l n i = c)
    (hl : lt (HL.el l c) (HL.el l i) = true) (hI : I (HL.swp l i c) w2) (hF' : F w1 w2) : i0 ≤ c ∧ i < c ∧ c < n ∧ DownRel lt I F l0 w lo n i0 c w2 := by
  have hl0 := hp.length_eq
  have hcn : c < n ∧ i < c := by subst hcc; unfold HL.kid; split <;> omega
  refine ⟨by omega, hcn.2, hcn.1, _, hI, H.trans _ _ _ hF hF', (HL.swp_perm _ _ _ (by omega) (by omega)).trans hp, ?_, fun k kn => ?_, fun e => by omega⟩
  · subst hcc
    exact hd.step H.ord (by omega) hi hc hl
  · rw [HL.el_swp _ _ _ _ (by omega) (by omega), if_neg (by omega), if_neg (by omega)]
    exact hk k kn

theorem DownPost.mk {it : Value} {α : Type} [Inhabited α] {lt : α → α → Bool} {I : List α → World → Prop} {F : World → World → Prop} (H : HeapRep Tryz.prog it lt I F) {l0 l : List α} {w w1 w2 : World} {lo n i0 i : Nat}
    (hi : i0 ≤ i) (hF : F w w1) (hp : l.Perm l0) (hd : HL.DownInv lt lo i0 l n i) (hk : ∀ k, n ≤ k → HL.el l k = HL.el l0 k) (he : i = i0 → l = l0) (hI : I l w2) (hF' : F w1 w2)
    (hc : n ≤ 2 * i + 1 ∨ lt (HL.el l (HL.kid lt l n i)) (HL.el l i) = false) : DownPost lt I F l0 w lo n i0 (.returned (.bool (decide (i0 < i)))) w2 := by
  have hdone := hd.done H.ord hc
  refine ⟨l, _, rfl, hI, H.trans _ _ _ hF hF', hp, hk, fun hb => ?_, fun hb => ?_⟩
  · have : i = i0 := by simp at hb; omega
    exact ⟨he this, fun k k0 kn kl ki => hdone k k0 kn kl (.inl ki)⟩
  · have : i0 < i := by simp at hb; omega
    exact fun k k0 kn kl => hdone k k0 kn kl (.inr this)

set_option maxHeartbeats 1000000 in
theorem heap_down {it : Value} {α : Type} [Inhabited α] {lt : α → α → Bool} {I : List α → World → Prop} {F : World → World → Prop} (H : HeapRep Tryz.prog it lt I F)
    (l0 : List α) (w : World) (h0 : I l0 w) (lo : Nat) (n i0 : Int) (hn0 : 0 ≤ n) (hn : n ≤ l0.length) (hi0 : 0 ≤ i0) (hd : HL.DownInv lt lo i0.toNat l0 n.toNat i0.toNat) (hib : i0 ≤ 1000000) :
    Calls Tryz.prog 204 #[it, .int .i64 i0, .int .i64 n] w (DownPost lt I F l0 w lo n.toNat i0.toNat) := by
  obtain ⟨i0, rfl⟩ := Int.eq_ofNat_of_zero_le hi0
  obtain ⟨n, rfl⟩ := Int.eq_ofNat_of_zero_le hn0
  simp only [Int.toNat_natCast] at hd ⊢
  have HS := Lib.hid H; clear H
  have hs0 := HS.out.small _ _ h0
  have hst : DownRel lt I F l0 w lo n i0 i0 w := ⟨l0, h0, HS.out.refl _, List.Perm.refl _, hd, fun _ _ => rfl, fun _ => rfl⟩
  have HST := Lib.hid hst; clear hst h0 hd
  have hn1 : n ≤ l0.length := by omega
  clear hn
  go_enter Tryz.func204, Tryz.ntmps204
  go_wp2
  go_loopw [7, 8, 9, 10] (fun iv _ _ _ wr => ∃ i : Nat, i0 ≤ i ∧ (i = i0 ∨ i < n) ∧ iv = .int .i64 i ∧ DownRel lt I F l0 w lo n i0 i wr) (fun iv _ _ _ _ => n - (intOf iv).toNat)
  case atStart => exact ⟨i0, Nat.le_refl _, .inl rfl, rfl, HST.out⟩
  case round =>
    clear HST hi0 hn0
    obtain ⟨i, hi, hin, rfl, l, hI, hF, hp, hd, hk, he⟩ := hrel
    have hl0 : l.length ≤ l0.length := Nat.le_of_eq hp.length_eq
    have hl1 : l0.length ≤ l.length := Nat.le_of_eq hp.length_eq.symm
    have HK := Lib.hid hk; clear hk
    have HD := Lib.hid hd; clear hd
    have HE := Lib.hid he; clear he
    have hib2 : i ≤ 1000000 := by omega
    by_cases hc : 2 * i + 1 < n
    · have hin' : i < n := by omega
      clear hin
      have HL1 := Lib.hid (fun (h2 : 2 * i + 2 < n) => HS.out.less l wr hI (2 * (i : Int) + 1 + 1) (2 * (i : Int) + 1) (by omega) (by omega) (by omega) (by omega))
      have HL2 := Lib.hid (fun w1 (h : I l w1) (c : Int) (hc0 : 0 ≤ c) (hcn : c < n) => HS.out.less l w1 h c i (by omega) (by omega) (by omega) (by omega))
      have HSW := Lib.hid (fun w1 (h : I l w1) (c : Int) (hc0 : 0 ≤ c) (hcn : c < n) => HS.out.swap l w1 h i c (by omega) (by omega) (by omega) (by omega))
      have e1 : (2 * (i : Int) + 1 + 1).toNat = 2 * i + 2 := by omega
      have e2 : (2 * (i : Int) + 1).toNat = 2 * i + 1 := by omega
      have E1 := Lib.hid e1; have E2 := Lib.hid e2; clear e1 e2
      by_cases h2 : 2 * i + 2 < n
      · have hL := HL1.out h2
        clear HL1
        rw [E1.out, E2.out] at hL
        cases h1 : lt (HL.el l (2 * i + 2)) (HL.el l (2 * i + 1)) with
        | true =>
          rw [h1] at hL
          have HL1 := Lib.hid hL; clear hL
          have HC := Lib.hid (show HL.kid lt l n i = 2 * i + 2 by unfold HL.kid; rw [if_pos ⟨h2, h1⟩])
          clear h1
          have HLB := Lib.hid (fun w1 (h : I l w1) => HL2.out w1 h (2 * (i : Int) + 1 + 1) (by omega) (by omega))
          have HSB := Lib.hid (fun w1 (h : I l w1) => HSW.out w1 h (2 * (i : Int) + 1 + 1) (by omega) (by omega))
          clear HL2 HSW
          rw [E1.out, Int.toNat_natCast] at HLB HSB
          cases h3 : lt (HL.el l (2 * i + 2)) (HL.el l i) with
          | false =>
            rw [h3] at HLB
            have H3 := Lib.hid h3; clear h3
            go_wp2_with (first | ((with_reducible refine wpI2 HL1.out ?_ ?_ ?_ ?_ ?_); rfl; rfl; rfl; rfl; rintro v w1 ⟨rfl, hI1, hF1⟩) | ((with_reducible refine wpI2 (HLB.out _ hI1) ?_ ?_ ?_ ?_ ?_); rfl; rfl; rfl; rfl; rintro v w2 ⟨rfl, hI2, hF2⟩))
            go_ret
            exact DownPost.mk HS.out hi hF hp HD.out HK.out HE.out hI2 (HS.out.trans _ _ _ hF1 hF2) (.inr (by rw [HC.out]; exact H3.out))
          | true =>
            rw [h3] at HLB
            have H3 := Lib.hid h3; clear h3
            go_wp2_with (first | ((with_reducible refine wpI2 HL1.out ?_ ?_ ?_ ?_ ?_); rfl; rfl; rfl; rfl; rintro v w1 ⟨rfl, hI1, hF1⟩) | ((with_reducible refine wpI2 (HLB.out _ hI1) ?_ ?_ ?_ ?_ ?_); rfl; rfl; rfl; rfl; rintro v w2 ⟨rfl, hI2, hF2⟩) | ((with_reducible refine wpI2 (HSB.out _ hI2) ?_ ?_ ?_ ?_ ?_); rfl; rfl; rfl; rfl; rintro v w3 ⟨hI3, hF3⟩))
            obtain ⟨q1, q2, q3, q4⟩ := DownRel.step HS.out hn1 hi (HS.out.trans _ _ _ hF (HS.out.trans _ _ _ hF1 hF2)) hp HD.out HK.out hc HC.out H3.out hI3 hF3
            go_roundw
            case rel => exact ⟨2 * i + 2, q1, .inr q3, by go_num, q4⟩
            case measure => simp [intOf]; omega
        | false =>
          rw [h1] at hL
          have HL1 := Lib.hid hL; clear hL
          have HC := Lib.hid (show HL.kid lt l n i = 2 * i + 1 by unfold HL.kid; rw [if_neg (fun h => by rw [h1] at h; cases h.2)])
          clear h1
          have HLB := Lib.hid (fun w1 (h : I l w1) => HL2.out w1 h (2 * (i : Int) + 1) (by omega) (by omega))
          have HSB := Lib.hid (fun w1 (h : I l w1) => HSW.out w1 h (2 * (i : Int) + 1) (by omega) (by omega))
          clear HL2 HSW
          rw [E2.out, Int.toNat_natCast] at HLB HSB
          cases h3 : lt (HL.el l (2 * i + 1)) (HL.el l i) with
          | false =>
            rw [h3] at HLB
            have H3 := Lib.hid h3; clear h3
            go_wp2_with (first | ((with_reducible refine wpI2 HL1.out ?_ ?_ ?_ ?_ ?_); rfl; rfl; rfl; rfl; rintro v w1 ⟨rfl, hI1, hF1⟩) | ((with_reducible refine wpI2 (HLB.out _ hI1) ?_ ?_ ?_ ?_ ?_); rfl; rfl; rfl; rfl; rintro v w2 ⟨rfl, hI2, hF2⟩))
            go_ret
            exact DownPost.mk HS.out hi hF hp HD.out HK.out HE.out hI2 (HS.out.trans _ _ _ hF1 hF2) (.inr (by rw [HC.out]; exact H3.out))
          | true =>
            rw [h3] at HLB
            have H3 := Lib.hid h3; clear h3
            go_wp2_with (first | ((with_reducible refine wpI2 HL1.out ?_ ?_ ?_ ?_ ?_); rfl; rfl; rfl; rfl; rintro v w1 ⟨rfl, hI1, hF1⟩) | ((with_reducible refine wpI2 (HLB.out _ hI1) ?_ ?_ ?_ ?_ ?_); rfl; rfl; rfl; rfl; rintro v w2 ⟨rfl, hI2, hF2⟩) | ((with_reducible refine wpI2 (HSB.out _ hI2) ?_ ?_ ?_ ?_ ?_); rfl; rfl; rfl; rfl; rintro v w3 ⟨hI3, hF3⟩))
            obtain ⟨q1, q2, q3, q4⟩ := DownRel.step HS.out hn1 hi (HS.out.trans _ _ _ hF (HS.out.trans _ _ _ hF1 hF2)) hp HD.out HK.out hc HC.out H3.out hI3 hF3
            go_roundw
            case rel => exact ⟨2 * i + 1, q1, .inr q3, by go_num, q4⟩
            case measure => simp [intOf]; omega
      · have HC := Lib.hid (show HL.kid lt l n i = 2 * i + 1 by unfold HL.kid; rw [if_neg (fun h => h2 h.1)])
        clear HL1
        have HLB := Lib.hid (fun w1 (h : I l w1) => HL2.out w1 h (2 * (i : Int) + 1) (by omega) (by omega))
        have HSB := Lib.hid (fun w1 (h : I l w1) => HSW.out w1 h (2 * (i : Int) + 1) (by omega) (by omega))
        clear HL2 HSW
        rw [E2.out, Int.toNat_natCast] at HLB HSB
        cases h3 : lt (HL.el l (2 * i + 1)) (HL.el l i) with
        | false =>
          rw [h3] at HLB
          have H3 := Lib.hid h3; clear h3
          go_wp2_with (first | ((with_reducible refine wpI2 (HLB.out _ hI) ?_ ?_ ?_ ?_ ?_); rfl; rfl; rfl; rfl; rintro v w2 ⟨rfl, hI2, hF2⟩))
          go_ret
          exact DownPost.mk HS.out hi hF hp HD.out HK.out HE.out hI2 hF2 (.inr (by rw [HC.out]; exact H3.out))
        | true =>
          rw [h3] at HLB
          have H3 := Lib.hid h3; clear h3
          go_wp2_with (first | ((with_reducible refine wpI2 (HLB.out _ hI) ?_ ?_ ?_ ?_ ?_); rfl; rfl; rfl; rfl; rintro v w2 ⟨rfl, hI2, hF2⟩) | ((with_reducible refine wpI2 (HSB.out _ hI2) ?_ ?_ ?_ ?_ ?_); rfl; rfl; rfl; rfl; rintro v w3 ⟨hI3, hF3⟩))
          obtain ⟨q1, q2, q3, q4⟩ := DownRel.step HS.out hn1 hi (HS.out.trans _ _ _ hF hF2) hp HD.out HK.out hc HC.out H3.out hI3 hF3
          go_roundw
          case rel => exact ⟨2 * i + 1, q1, .inr q3, by go_num, q4⟩
          case measure => simp [intOf]; omega
    · go_wp2
      go_ret
      exact DownPost.mk HS.out hi hF hp HD.out HK.out HE.out hI (HS.out.refl _) (.inl (by omega))
end Go.Proofs.YtlocadmiomglaaaGreatDoor

/- container/heap's Push and Pop over any value of heap.Interface whose methods meet their contracts. -/
namespace Go.Proofs.YtlocadmiomglaaaGreatDoor
open Go.RowKit

set_option maxHeartbeats 400000 in
theorem heap_push {α : Type} [Inhabited α] {lt : α → α → Bool} {it xv : Value} {w : World} {K : World → Prop}
    (hP : InvC Tryz.prog it "Push" #[xv] w fun _ w1 => ∃ I F l x, HeapRep Tryz.prog it lt I F ∧ I (l ++ [x]) w1 ∧ HL.IsHeap lt l ∧ ∀ l' w2, I l' w2 → F w1 w2 → l'.Perm (l ++ [x]) → HL.IsHeap lt l' → K w2) :
    Calls Tryz.prog 186 #[it, xv] w fun e w' => e = .returned (.tuple #[]) ∧ K w' := by
  have HP := Lib.hid hP; clear hP
  go_enter Tryz.func186, Tryz.ntmps186
  go_wp2_with (first
    | ((with_reducible refine wpI1 HP.out ?_ ?_ ?_ ?_); rfl; rfl; rfl; rintro v w1 ⟨I, F, l, x, H, hI, hh, hK⟩; have HH := Lib.hid H; clear H; have HK := Lib.hid hK; clear hK; have HLen := Lib.hid (HH.out.len _ _ hI); have hsm := HH.out.small _ _ hI; have HU := Lib.hid (HL.upInv_push x hh); rw [List.length_append, List.length_singleton] at HLen hsm; clear HP)
    | ((with_reducible refine wpI0 HLen.out ?_ ?_ ?_); rfl; rfl; rintro v w2 ⟨rfl, hI2, hF2⟩)
    | (go_at_call 214; (with_reducible refine (heap_up HH.out _ _ hI2 (l.length + 1) ?_ _ ?_ ?_ ?_).mono ?_); simp; omega; omega; rw [Int.toNat_natCast]; exact HU.out; rintro e w3 ⟨rfl, l', hI3, hF3, hp, hh3, hk3⟩))
  go_end0
  exact ⟨rfl, HK.out _ _ hI3 (HH.out.trans _ _ _ hF2 hF3) hp (by unfold HL.IsHeap; rw [hp.length_eq]; simpa using hh3)⟩

theorem pop_end {α : Type} [Inhabited α] {lt : α → α → Bool} {l0 l' : List α} {n i : Nat} (hl : l0.length = n + 1) (hi : i < n + 1) (hp : l'.Perm (HL.swp l0 i n)) (hh : HL.HeapTo lt 0 l' n)
    (hk : HL.el l' n = HL.el (HL.swp l0 i n) n) : l' = l'.take n ++ [HL.el l0 i] ∧ (HL.el l0 i :: l'.take n).Perm l0 ∧ HL.IsHeap lt (l'.take n) := by
  have hlen : l'.length = n + 1 := by rw [hp.length_eq, HL.swp_length, hl]
  have e : HL.el l' n = HL.el l0 i := by rw [hk, HL.el_swp _ _ _ _ (by omega) (by omega), if_pos rfl]
  have e1 := HL.split_last hlen
  rw [e] at e1
  refine ⟨e1, ?_, HL.isHeap_take (by omega) hh⟩
  have p1 : (HL.el l0 i :: l'.take n).Perm (l'.take n ++ [HL.el l0 i]) := (List.perm_append_singleton _ _).symm
  exact p1.trans ((List.Perm.of_eq e1.symm).trans (hp.trans (HL.swp_perm _ _ _ (by omega) (by omega))))

set_option maxHeartbeats 400000 in
theorem heap_pop {α : Type} [Inhabited α] {lt : α → α → Bool} {it : Value} {I : List α → World → Prop} {F : World → World → Prop} (H : HeapRep Tryz.prog it lt I F) {w : World} {K : Value → World → Prop} (l0 : List α)
    (h0 : I l0 w) (hne : 0 < l0.length) (hh : HL.IsHeap lt l0)
    (hP : ∀ l w1, I (l ++ [HL.el l0 0]) w1 → F w w1 → (HL.el l0 0 :: l).Perm l0 → HL.IsHeap lt l → InvC Tryz.prog it "Pop" #[] w1 K) :
    Calls Tryz.prog 177 #[it] w fun e w' => ∃ v, e = .returned v ∧ K v w' := by
  have HP := Lib.hid hP; clear hP
  have HH := Lib.hid H; clear H
  have hsm := HH.out.small _ _ h0
  obtain ⟨n, hn⟩ : ∃ n, l0.length = n + 1 := ⟨l0.length - 1, by omega⟩
  have HLen := Lib.hid (HH.out.len _ _ h0)
  rw [hn] at HLen hsm
  have HN := Lib.hid hn
  have HSW := Lib.hid (fun w1 (h : I l0 w1) => HH.out.swap l0 w1 h 0 n (by omega) (by omega) (by omega) (by omega))
  have HD : Hid (HL.DownInv lt 0 0 (HL.swp l0 0 n) n 0) := by
    by_cases h : 0 < n
    · exact HL.downInv_pop hn h HH.out.ord hh
    · exact ⟨fun k k0 kn => by omega, fun k k0 kn => by omega⟩
  have hls : n ≤ (HL.swp l0 0 n).length := by rw [HL.swp_length]; omega
  clear hn hne hh
  rw [Int.toNat_natCast, Int.toNat_zero] at HSW
  go_enter Tryz.func177, Tryz.ntmps177
  go_wp2_with (first
    | ((with_reducible refine wpI0 HLen.out ?_ ?_ ?_); rfl; rfl; rintro v w1 ⟨rfl, hI1, hF1⟩; clear HLen)
    | ((with_reducible refine wpI2 (HSW.out _ hI1) ?_ ?_ ?_ ?_ ?_); rfl; rfl; rfl; rfl; rintro v w2 ⟨hI2, hF2⟩)
    | (go_at_call 204; (with_reducible refine (heap_down HH.out _ _ hI2 0 _ _ ?_ ?_ ?_ ?_ ?_).mono ?_); omega; omega; omega; simp only [Int.toNat_natCast, Int.toNat_zero]; exact HD.out; omega; simp only [Int.toNat_natCast, Int.toNat_zero]; rintro e w3 ⟨l', b, rfl, hI3, hF3, hp, hk, hb0, hb1⟩; have HB := Lib.hid (And.intro hb0 hb1); clear hb0 hb1; have HK := Lib.hid (hk n (by simp)); clear hk; have hh : HL.HeapTo lt 0 l' n := (by cases b with
        | false => exact HL.heapTo_of_post (HB.out.1 rfl).2
        | true => exact HB.out.2 rfl); have hend := pop_end HN.out (by omega) hp hh HK.out; have HI3 := Lib.hid (by have := hI3; rw [hend.1] at this; exact this); have HI := Lib.hid (HP.out _ _ HI3.out (HH.out.trans _ _ _ hF1 (HH.out.trans _ _ _ hF2 hF3)) hend.2.1 hend.2.2); clear HI3 hend HK HB hh)
    | ((with_reducible refine wpI0 HI.out ?_ ?_ ?_); rfl; rfl; rintro v w4 hK4))
  go_ret
  exact ⟨_, rfl, hK4⟩

end Go.Proofs.YtlocadmiomglaaaGreatDoor

/- container/heap's Init over any value of heap.Interface whose methods meet their contracts. -/
namespace Go.Proofs.YtlocadmiomglaaaGreatDoor
open Go.RowKit

/-- What holds as Init goes on: all parents from i on are in order. -/
def InitRel {α : Type} [Inhabited α] (lt : α → α → Bool) (I : List α → World → Prop) (F : World → World → Prop) (l0 : List α) (w : World) (i : Nat) (wr : World) : Prop :=
  ∃ l, I l wr ∧ F w wr ∧ l.Perm l0 ∧ HL.HeapTo lt i l l0.length

set_option maxHeartbeats 400000 in
theorem heap_init {α : Type} [Inhabited α] {lt : α → α → Bool} {it : Value} {I : List α → World → Prop} {F : World → World → Prop} (H : HeapRep Tryz.prog it lt I F) {w : World} (l0 : List α) (h0 : I l0 w) :
    Calls Tryz.prog 173 #[it] w fun e w' => e = .returned (.tuple #[]) ∧ ∃ l, I l w' ∧ F w w' ∧ l.Perm l0 ∧ HL.IsHeap lt l := by
  have HH := Lib.hid H; clear H
  have hsm := HH.out.small _ _ h0
  have HLen := Lib.hid (HH.out.len _ _ h0)
  go_enter Tryz.func173, Tryz.ntmps173
  go_wp2_with ((with_reducible refine wpI0 HLen.out ?_ ?_ ?_); rfl; rfl; rintro v w1 ⟨rfl, hI1, hF1⟩; clear HLen)
  go_loopw [3] (fun iv wr => ∃ i : Nat, i ≤ l0.length / 2 ∧ iv = .int .i64 ((i : Int) - 1) ∧ InitRel lt I F l0 w i wr) (fun iv _ => (intOf iv + 1).toNat)
  case atStart => exact ⟨l0.length / 2, Nat.le_refl _, by go_num, l0, hI1, hF1, List.Perm.refl _, HL.heapTo_half _ _⟩
  case round =>
    obtain ⟨i, hi, rfl, l, hI, hF, hp, hh⟩ := hrel
    have hl0 : l.length ≤ l0.length := Nat.le_of_eq hp.length_eq
    have hl1 : l0.length ≤ l.length := Nat.le_of_eq hp.length_eq.symm
    have HHT := Lib.hid hh; clear hh
    by_cases hi0 : i = 0
    · subst hi0
      go_wp2
      go_end0
      exact ⟨rfl, l, hI, hF, hp, by unfold HL.IsHeap; rw [hp.length_eq]; exact HHT.out⟩
    · obtain ⟨k, rfl⟩ : ∃ k, i = k + 1 := ⟨i - 1, by omega⟩
      go_wp2_with (go_at_call 204; (with_reducible refine (heap_down HH.out _ _ hI k _ _ ?_ ?_ ?_ ?_ ?_).mono ?_); omega; omega; omega; simp only [Int.toNat_natCast]; exact HL.downInv_init HHT.out; omega; simp only [Int.toNat_natCast]; rintro e w3 ⟨l', b, rfl, hI3, hF3, hp3, hk, hb0, hb1⟩; have HB := Lib.hid (And.intro hb0 hb1); clear hb0 hb1; have HK := Lib.hid hk; clear hk)
      go_roundw
      case rel => exact ⟨k, by omega, by go_num, l', hI3, HH.out.trans _ _ _ hF hF3, hp3.trans hp, by
        cases b with
        | false => exact HL.heapTo_of_post (HB.out.1 rfl).2
        | true => exact HB.out.2 rfl⟩
      case measure => simp [intOf]

end Go.Proofs.YtlocadmiomglaaaGreatDoor

/- Slices of ints: how they read, rows of them. -/
namespace Go.Proofs.YtlocadmiomglaaaGreatDoor
open Go.RowKit

theorem info_int : (Tryz.prog.info? 3).map (fun i => (i.zero, i.size, i.bytes)) = some (some (.int .i64 0), 1, 8) := by kernel_rfl

def ncells (x : Int) : List Value := [.int .i64 x]
theorem ncells_length (x : Int) : (ncells x).length = 1 := rfl

/-- The slice p of n elements reads as the numbers zs; its memory lies below block B. -/
def RdI (w : World) (B : Nat) (p : Option Addr) (n : Nat) (zs : List Int) : Prop :=
  zs.length = n ∧ (0 < n → ∃ b o, p = some ⟨b, o, none⟩ ∧ b < B ∧ ∀ k, k < n → w.cell? ⟨b, o + k, none⟩ = some (.int .i64 (HL.el zs k)))

theorem RdI.keep {w w' : World} {B : Nat} {p : Option Addr} {n : Nat} {zs : List Int} (h : RdI w B p n zs) {S : Nat → Prop} (hf : Fr S w w') (hB : B ≤ w.heap.size) (hS : ∀ i, i < B → ¬ S i) : RdI w' B p n zs :=
  ⟨h.1, fun hn => by
    obtain ⟨b, o, e, hb, hc⟩ := h.2 hn
    exact ⟨b, o, e, hb, fun k hk => (hf.cell (p := ⟨b, o + k, none⟩) (by show b < _; omega) (hS b hb)).trans (hc k hk)⟩⟩

theorem RdI.below {w w' : World} {B : Nat} {p : Option Addr} {n : Nat} {zs : List Int} (h : RdI w B p n zs) (hf : Below B w w') : RdI w' B p n zs :=
  ⟨h.1, fun hn => by
    obtain ⟨b, o, e, hb, hc⟩ := h.2 hn
    exact ⟨b, o, e, hb, fun k hk => (hf.cell (p := ⟨b, o + k, none⟩) hb).trans (hc k hk)⟩⟩

theorem RdI.more {w : World} {B B' : Nat} {p : Option Addr} {n : Nat} {zs : List Int} (h : RdI w B p n zs) (hB : B ≤ B') : RdI w B' p n zs :=
  ⟨h.1, fun hn => by
    obtain ⟨b, o, e, hb, hc⟩ := h.2 hn
    exact ⟨b, o, e, by omega, hc⟩⟩

/-- What the row's frame tells of a slice of integers that came in. -/
theorem rd_of_row {w : World} {a : Option Addr} {len cap : Nat} {zs : List Int}
    (h : (a = none ∧ len = 0 ∧ cap = 0 ∧ zs = []) ∨ ∃ x, a = some x ∧ len ≤ cap ∧ cap ≤ maxLen ∧ zs.length = cap ∧ (∀ i, i < zs.length → w.cell? (x.add i) = some (.int .i64 (zs.getD i 0))) ∧ ∀ n ∈ zs, (Lit.int .i64 n).wf = true) : RdI w w.heap.size a len (zs.take len) := by
  rcases h with ⟨rfl, rfl, rfl, rfl⟩ | ⟨⟨b, o, sp⟩, rfl, hl, hm, hz, hc, _⟩
  · exact ⟨rfl, fun h => by omega⟩
  · refine ⟨by rw [List.length_take]; omega, fun hn => ?_⟩
    have h0 := hc 0 (by omega)
    have hsp : sp = none := by simpa [Addr.add] using World.cell?_spot h0
    subst hsp
    refine ⟨b, o, rfl, by simpa [Addr.add] using cell_lt h0, fun k hk => ?_⟩
    have h1 := hc k (by omega)
    have e : ((⟨b, o, none⟩ : Addr).add k) = ⟨b, o + k, none⟩ := by
      unfold Addr.add
      split
      · rename_i h; rw [h, Nat.add_zero]
      · rfl
    rw [e] at h1
    rw [h1]
    unfold HL.el
    rw [List.getD_eq_getElem?_getD, List.getD_eq_getElem?_getD, List.getElem?_take, if_pos hk]
    rfl

/-- A row that is owned reads. -/
theorem RdI.of_own {w : World} {base n c : Nat} {p : Option Addr} {zs : List Int} (h : w.ownsRow base 3 1 (.slice p n c) n (rowOf ncells zs)) (hz : zs.length = n) : RdI w w.heap.size p n zs := by
  refine ⟨hz, fun hn => ?_⟩
  obtain ⟨g, cap, hv, _, hg, _⟩ := owns_len h hn
  injection hv with h1 _ h3
  subst h1 h3
  refine ⟨g, 0, rfl, hg, fun k hk => ?_⟩
  rw [Nat.zero_add, h.cellAt k (by omega)]
  have r0 := rowOf_at ncells ncells_length zs k 0 (by omega) (by omega)
  rw [Nat.mul_one, Nat.add_zero] at r0
  exact r0

theorem add_at (b o j : Nat) : (⟨b, o, none⟩ : Addr).add j = ⟨b, o + j, none⟩ := by
  unfold Addr.add
  split
  · rename_i h; rw [h, Nat.add_zero]
  · rfl

theorem rowOf_ncells_get {zs : List Int} {j : Nat} {u : Value} (h : (rowOf ncells zs)[j]? = some u) : j < zs.length ∧ u = .int .i64 (HL.el zs j) := by
  have hl := rowOf_length ncells ncells_length zs
  have hj : j < zs.length := by
    have := (List.getElem?_eq_some_iff.1 h).1
    omega
  have r0 := rowOf_at ncells ncells_length zs j 0 hj (by omega)
  rw [Nat.mul_one, Nat.add_zero, h] at r0
  refine ⟨hj, ?_⟩
  have : (ncells (zs.getD j default))[0]? = some (.int .i64 (HL.el zs j)) := rfl
  rw [this] at r0
  injection r0

theorem rowOf_ncells_one {zs : List Int} : ∀ u ∈ rowOf ncells zs, u.oneCell' = true := by
  intro u hu
  obtain ⟨j, hj, e⟩ := List.getElem_of_mem hu
  have := rowOf_ncells_get (zs := zs) (j := j) (u := u) (by rw [List.getElem?_eq_getElem hj, e])
  rw [this.2]
  rfl

theorem rd_new (w : World) (zs : List Int) (t : TypeId) : RdI (w.alloc (.cells (rowOf ncells zs).toArray t)) (w.alloc (.cells (rowOf ncells zs).toArray t)).heap.size (some ⟨w.heap.size, 0, none⟩) zs.length zs := by
  refine ⟨rfl, fun _ => ⟨w.heap.size, 0, rfl, by simp, fun k hk => ?_⟩⟩
  have := new_cells w (rowOf ncells zs) t k (.int .i64 (HL.el zs k))
  rw [add_at] at this
  refine this ?_
  have r0 := rowOf_at ncells ncells_length zs k 0 hk (by omega)
  rw [Nat.mul_one, Nat.add_zero] at r0
  exact r0

/-- The slice p of n elements of 'size' cells each reads as zs; its memory lies below block B. -/
def RdG {α : Type} (f : α → List Value) (w : World) (B : Nat) (p : Option Addr) (n : Nat) (zs : List α) : Prop :=
  zs.length = n ∧ (0 < n → ∃ b o, p = some ⟨b, o, none⟩ ∧ b < B ∧ ∀ j u, (rowOf f zs)[j]? = some u → w.cell? ⟨b, o + j, none⟩ = some u)

section
variable {α : Type} {f : α → List Value} {w w' : World} {B B' n : Nat} {p : Option Addr} {zs : List α}
theorem RdG.below (h : RdG f w B p n zs) (hf : Below B w w') : RdG f w' B p n zs :=
  ⟨h.1, fun hn => by
    obtain ⟨b, o, e, hb, hc⟩ := h.2 hn
    exact ⟨b, o, e, hb, fun j u hu => (hf.cell (p := ⟨b, o + j, none⟩) hb).trans (hc j u hu)⟩⟩
theorem RdG.more (h : RdG f w B p n zs) (hB : B ≤ B') : RdG f w B' p n zs :=
  ⟨h.1, fun hn => by
    obtain ⟨b, o, e, hb, hc⟩ := h.2 hn
    exact ⟨b, o, e, by omega, hc⟩⟩
theorem RdG.nil : RdG f w B p 0 ([] : List α) := ⟨rfl, fun h => by omega⟩
theorem RdG.fresh (w : World) (zs : List α) (t : TypeId) : RdG f (w.alloc (.cells (rowOf f zs).toArray t)) (w.heap.size + 1) (some ⟨w.heap.size, 0, none⟩) zs.length zs :=
  ⟨rfl, fun _ => ⟨w.heap.size, 0, rfl, by omega, fun j u hu => by
    have := new_cells w (rowOf f zs) t j u hu
    rw [add_at] at this
    exact this⟩⟩
theorem RdG.of_own {base c : Nat} {e : TypeId} {size : Nat} (h : w.ownsRow base e size (.slice p n c) n (rowOf f zs)) (hz : zs.length = n) : RdG f w w.heap.size p n zs := by
  refine ⟨hz, fun hn => ?_⟩
  obtain ⟨g, cap, hv, _, hg, _⟩ := owns_len h hn
  injection hv with h1 _ h3
  subst h1 h3
  refine ⟨g, 0, rfl, hg, fun j u hu => ?_⟩
  have := h.cells (g := g) rfl j u hu
  rw [add_at] at this
  exact this
end

end Go.Proofs.YtlocadmiomglaaaGreatDoor

