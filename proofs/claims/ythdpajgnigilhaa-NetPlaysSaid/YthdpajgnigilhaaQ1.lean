/- Merged texts: HeapList HeapC HeapD HeapE Ord Fr NDues NDuesH. -/
import Derived.Test.YthdpajgnigilhaaRows
import Derived.WalkKit
import Derived.WalkSpells
import Derived.WalkLawsBesides
import Derived.Deep.LoopGhost
import Derived.Lib.Hide
import Derived.Deep.QuietTactic
import Derived.BigQuiet
import Derived.Laws.OwnMore
import Derived.Laws.Rows
import Derived.StillTailTactics
import Derived.Deep.AppendLies
import Derived.Deep.RegionHeld3
import Derived.Deep.RegionLaw
import Derived.BigRegion
/- Plain facts on binary heaps in lists (no program): exchange, the invariants of sifting up and down. -/
namespace Go.Proofs.Ythdpajgnigilhaa.HL

variable {α : Type} [Inhabited α]

/-- Element k. -/
def el (l : List α) (k : Nat) : α := l.getD k default

/-- Two elements exchanged. -/
def swp (l : List α) (i j : Nat) : List α := (l.set i (el l j)).set j (el l i)

theorem swp_length (l : List α) (i j : Nat) : (swp l i j).length = l.length := by simp [swp]

theorem el_set (l : List α) (i k : Nat) (x : α) (hi : i < l.length) : el (l.set i x) k = if k = i then x else el l k := by
  unfold el
  rw [List.getD_eq_getElem?_getD, List.getD_eq_getElem?_getD, List.getElem?_set]
  by_cases h : i = k
  · subst h; simp [hi]
  · rw [if_neg h, if_neg (fun e => h e.symm)]

theorem el_swp (l : List α) (i j k : Nat) (hi : i < l.length) (hj : j < l.length) :
    el (swp l i j) k = if k = j then el l i else if k = i then el l j else el l k := by
  unfold swp
  rw [el_set _ _ _ _ (by simpa using hj), el_set _ _ _ _ hi]

theorem el_append_left (l m : List α) (k : Nat) (h : k < l.length) : el (l ++ m) k = el l k := by
  unfold el
  rw [List.getD_eq_getElem?_getD, List.getD_eq_getElem?_getD, List.getElem?_append_left h]

theorem el_mem (l : List α) (k : Nat) (h : k < l.length) : el l k ∈ l := by
  unfold el
  rw [List.getD_eq_getElem?_getD, List.getElem?_eq_getElem h]
  simp

theorem el_eq (l : List α) (k : Nat) (h : k < l.length) : l[k]? = some (el l k) := by
  unfold el
  rw [List.getD_eq_getElem?_getD, List.getElem?_eq_getElem h]
  rfl

theorem ext_el {l m : List α} (hl : l.length = m.length) (h : ∀ k, k < l.length → el l k = el m k) : l = m := by
  refine List.ext_getElem? fun k => ?_
  by_cases hk : k < l.length
  · rw [el_eq l k hk, el_eq m k (by omega), h k hk]
  · rw [List.getElem?_eq_none (by omega), List.getElem?_eq_none (by omega)]

theorem swp_perm (l : List α) (i j : Nat) (hi : i < l.length) (hj : j < l.length) : (swp l i j).Perm l := by
  induction l generalizing i j with
  | nil => simp at hi
  | cons x l ih =>
    cases i with
    | zero =>
      cases j with
      | zero => simp [swp, el]
      | succ j =>
        have hj' : j < l.length := by simpa using hj
        have e : swp (x :: l) 0 (j + 1) = el l j :: l.set j x := by simp [swp, el]
        rw [e]
        have h1 : l = l.take j ++ el l j :: l.drop (j + 1) := by
          conv => lhs; rw [← List.take_append_drop j l, List.drop_eq_getElem_cons hj']
          congr 1
          have := el_eq l j hj'
          rw [List.getElem?_eq_getElem hj'] at this
          simp at this
          rw [this]
        have h2 : l.set j x = l.take j ++ x :: l.drop (j + 1) := by
          rw [List.set_eq_take_append_cons_drop, if_pos hj']
        rw [h2]
        refine List.Perm.trans ?_ (List.Perm.cons x (List.Perm.of_eq h1.symm))
        have p1 : (el l j :: (l.take j ++ x :: l.drop (j + 1))).Perm (el l j :: x :: (l.take j ++ l.drop (j + 1))) := List.Perm.cons _ List.perm_middle
        have p2 : (x :: (l.take j ++ el l j :: l.drop (j + 1))).Perm (x :: el l j :: (l.take j ++ l.drop (j + 1))) := List.Perm.cons _ List.perm_middle
        exact p1.trans ((List.Perm.swap _ _ _).trans p2.symm)
    | succ i =>
      cases j with
      | zero =>
        have hi' : i < l.length := by simpa using hi
        have e : swp (x :: l) (i + 1) 0 = el l i :: l.set i x := by simp [swp, el]
        have e' : swp (x :: l) 0 (i + 1) = el l i :: l.set i x := by simp [swp, el]
        rw [e]
        have h1 : l = l.take i ++ el l i :: l.drop (i + 1) := by
          conv => lhs; rw [← List.take_append_drop i l, List.drop_eq_getElem_cons hi']
          congr 1
          have := el_eq l i hi'
          rw [List.getElem?_eq_getElem hi'] at this
          simp at this
          rw [this]
        have h2 : l.set i x = l.take i ++ x :: l.drop (i + 1) := by
          rw [List.set_eq_take_append_cons_drop, if_pos hi']
        rw [h2]
        refine List.Perm.trans ?_ (List.Perm.cons x (List.Perm.of_eq h1.symm))
        have p1 : (el l i :: (l.take i ++ x :: l.drop (i + 1))).Perm (el l i :: x :: (l.take i ++ l.drop (i + 1))) := List.Perm.cons _ List.perm_middle
        have p2 : (x :: (l.take i ++ el l i :: l.drop (i + 1))).Perm (x :: el l i :: (l.take i ++ l.drop (i + 1))) := List.Perm.cons _ List.perm_middle
        exact p1.trans ((List.Perm.swap _ _ _).trans p2.symm)
      | succ j =>
        have e : swp (x :: l) (i + 1) (j + 1) = x :: swp l i j := by simp [swp, el]
        rw [e]
        exact List.Perm.cons x (ih i j (by simpa using hi) (by simpa using hj))

/-- What an order must be for a heap: 'not less' is transitive, and 'less' is one-sided. -/
structure Ord (lt : α → α → Bool) : Prop where
  asymm : ∀ a b, lt a b = true → lt b a = false
  trans : ∀ a b c, lt b a = false → lt c b = false → lt c a = false

/-- The pair of k and its parent is in order. -/
def okAt (lt : α → α → Bool) (l : List α) (k : Nat) : Prop := lt (el l k) (el l ((k - 1) / 2)) = false

/-- The first n elements are a heap, as far as parents from lo on are concerned. -/
def HeapTo (lt : α → α → Bool) (lo : Nat) (l : List α) (n : Nat) : Prop := ∀ k, 0 < k → k < n → lo ≤ (k - 1) / 2 → okAt lt l k

def IsHeap (lt : α → α → Bool) (l : List α) : Prop := HeapTo lt 0 l l.length

/-- All is in order but for j and its parent. -/
def UpInv (lt : α → α → Bool) (l : List α) (n j : Nat) : Prop :=
  (∀ k, 0 < k → k < n → k ≠ j → okAt lt l k) ∧ (∀ k, 0 < k → k < n → (k - 1) / 2 = j → 0 < j → lt (el l k) (el l ((j - 1) / 2)) = false)

theorem UpInv.done {lt : α → α → Bool} {l : List α} {n j : Nat} (h : UpInv lt l n j) (hj : j = 0 ∨ okAt lt l j) : HeapTo lt 0 l n := by
  intro k h0 hk _
  by_cases e : k = j
  · subst e
    rcases hj with hj | hj
    · omega
    · exact hj
  · exact h.1 k h0 hk e

theorem UpInv.step {lt : α → α → Bool} (O : Ord lt) {l : List α} {n j : Nat} (hn : n ≤ l.length) (hj : j < n) (h0 : 0 < j) (h : UpInv lt l n j)
    (hl : lt (el l j) (el l ((j - 1) / 2)) = true) : UpInv lt (swp l ((j - 1) / 2) j) n ((j - 1) / 2) := by
  have hp : (j - 1) / 2 < l.length := by omega
  have hj' : j < l.length := by omega
  have hpj : (j - 1) / 2 < j := by omega
  obtain ⟨h1, h2⟩ := h
  refine ⟨fun k k0 kn kp => ?_, fun k k0 kn kp p0 => ?_⟩
  · unfold okAt
    rw [el_swp _ _ _ _ hp hj', el_swp _ _ _ _ hp hj']
    by_cases e : k = j
    · subst e
      rw [if_pos rfl, if_neg (by omega), if_pos rfl]
      exact O.asymm _ _ hl
    · rw [if_neg e, if_neg kp]
      by_cases e2 : (k - 1) / 2 = j
      · rw [if_pos e2]
        exact h2 k k0 kn e2 h0
      · rw [if_neg e2]
        by_cases e3 : (k - 1) / 2 = (j - 1) / 2
        · rw [if_pos e3]
          have := h1 k k0 kn e
          unfold okAt at this
          rw [e3] at this
          exact O.trans _ _ _ (O.asymm _ _ hl) this
        · rw [if_neg e3]
          exact h1 k k0 kn e
  · rw [el_swp _ _ _ _ hp hj', el_swp _ _ _ _ hp hj']
    have g := h1 ((j - 1) / 2) (by omega) (by omega) (by omega)
    rw [if_neg (by omega : ¬ ((j - 1) / 2 - 1) / 2 = j), if_neg (by omega : ¬ ((j - 1) / 2 - 1) / 2 = (j - 1) / 2)]
    by_cases e : k = j
    · rw [if_pos e]
      exact g
    · rw [if_neg e, if_neg (by omega)]
      have h3 := h1 k k0 kn e
      unfold okAt at h3
      rw [kp] at h3
      exact O.trans _ _ _ g h3

/-- Sifting down from i0: all is in order but for i and its children (and, as long as i is i0, i0 and its parent). -/
def DownInv (lt : α → α → Bool) (lo i0 : Nat) (l : List α) (n i : Nat) : Prop :=
  (∀ k, 0 < k → k < n → lo ≤ (k - 1) / 2 → (k - 1) / 2 ≠ i → (k ≠ i0 ∨ i0 < i) → okAt lt l k) ∧
  (∀ k, 0 < k → k < n → (k - 1) / 2 = i → 0 < i → lo ≤ (i - 1) / 2 → lt (el l k) (el l ((i - 1) / 2)) = false)

/-- The lesser child of i among the first n. -/
def kid (lt : α → α → Bool) (l : List α) (n i : Nat) : Nat := if 2 * i + 2 < n ∧ lt (el l (2 * i + 2)) (el l (2 * i + 1)) = true then 2 * i + 2 else 2 * i + 1

theorem DownInv.step {lt : α → α → Bool} (O : Ord lt) {lo i0 : Nat} {l : List α} {n i : Nat} (hn : n ≤ l.length) (hi0 : i0 ≤ i) (h : DownInv lt lo i0 l n i) (hc : 2 * i + 1 < n)
    (hl : lt (el l (kid lt l n i)) (el l i) = true) : DownInv lt lo i0 (swp l i (kid lt l n i)) n (kid lt l n i) := by
  obtain ⟨h1, h2⟩ := h
  have hk : (kid lt l n i - 1) / 2 = i ∧ kid lt l n i < n ∧ i < kid lt l n i := by
    unfold kid
    split <;> omega
  have hsib : ∀ k, 0 < k → k < n → (k - 1) / 2 = i → lt (el l k) (el l (kid lt l n i)) = false := by
    intro k k0 kn ki
    have hk2 : k = 2 * i + 1 ∨ k = 2 * i + 2 := by omega
    unfold kid
    split
    · rename_i hs
      rcases hk2 with rfl | rfl
      · exact O.asymm _ _ hs.2
      · cases hx : lt (el l (2 * i + 2)) (el l (2 * i + 2)) with
        | false => rfl
        | true => rw [← hx]; exact O.asymm _ _ hx
    · rename_i hs
      rcases hk2 with rfl | rfl
      · cases hx : lt (el l (2 * i + 1)) (el l (2 * i + 1)) with
        | false => rfl
        | true => rw [← hx]; exact O.asymm _ _ hx
      · cases hx : lt (el l (2 * i + 2)) (el l (2 * i + 1)) with
        | false => rfl
        | true => exact absurd ⟨kn, hx⟩ hs
  generalize kid lt l n i = c at *
  obtain ⟨hc1, hc2, hc3⟩ := hk
  have hcl : c < l.length := by omega
  have hil : i < l.length := by omega
  refine ⟨fun k k0 kn klo kc kor => ?_, fun k k0 kn kc c0 clo => ?_⟩
  · unfold okAt
    rw [el_swp _ _ _ _ hil hcl, el_swp _ _ _ _ hil hcl, if_neg kc]
    by_cases e : k = c
    · subst e
      rw [if_pos rfl, if_pos hc1]
      exact O.asymm _ _ hl
    · rw [if_neg e]
      by_cases e2 : k = i
      · subst e2
        rw [if_pos rfl, if_neg (by omega)]
        exact h2 c (by omega) hc2 hc1 (by omega) klo
      · rw [if_neg e2]
        by_cases e3 : (k - 1) / 2 = i
        · rw [if_pos e3]
          exact hsib k k0 kn e3
        · rw [if_neg e3]
          exact h1 k k0 kn klo e3 (by omega)
  · rw [el_swp _ _ _ _ hil hcl, el_swp _ _ _ _ hil hcl, if_neg (by omega), if_neg (by omega), hc1, if_neg (by omega), if_pos rfl]
    have := h1 k k0 kn (by omega) (by omega) (by omega)
    unfold okAt at this
    rw [kc] at this
    exact this

/-- Where i has no child that is less, all is in order behind i0. -/
theorem DownInv.done {lt : α → α → Bool} (O : Ord lt) {lo i0 : Nat} {l : List α} {n i : Nat} (h : DownInv lt lo i0 l n i)
    (hc : n ≤ 2 * i + 1 ∨ lt (el l (kid lt l n i)) (el l i) = false) : ∀ k, 0 < k → k < n → lo ≤ (k - 1) / 2 → (k ≠ i0 ∨ i0 < i) → okAt lt l k := by
  intro k k0 kn klo kor
  by_cases e : (k - 1) / 2 = i
  · rcases hc with hc | hc
    · omega
    · unfold okAt
      rw [e]
      have hk2 : k = 2 * i + 1 ∨ k = 2 * i + 2 := by omega
      unfold kid at hc
      split at hc
      · rename_i hs
        rcases hk2 with rfl | rfl
        · exact O.trans _ _ _ hc (O.asymm _ _ hs.2)
        · exact hc
      · rename_i hs
        rcases hk2 with rfl | rfl
        · exact hc
        · cases hx : lt (el l (2 * i + 2)) (el l (2 * i + 1)) with
          | true => exact absurd ⟨kn, hx⟩ hs
          | false => exact O.trans _ _ _ hc hx
  · exact h.1 k k0 kn klo e kor

/-- The first one of a heap is least. -/
theorem IsHeap.least {lt : α → α → Bool} (O : Ord lt) {l : List α} (h : IsHeap lt l) : ∀ k, k < l.length → lt (el l k) (el l 0) = false := by
  intro k
  induction k using Nat.strongRecOn with
  | _ k ih =>
    intro hk
    by_cases k0 : k = 0
    · subst k0
      cases hx : lt (el l 0) (el l 0) with
      | false => rfl
      | true => rw [← hx]; exact O.asymm _ _ hx
    · have h1 := h k (by omega) hk (Nat.zero_le _)
      have h2 := ih ((k - 1) / 2) (by omega) (by omega)
      exact O.trans _ _ _ h2 h1

theorem IsHeap.least_mem {lt : α → α → Bool} (O : Ord lt) {l : List α} (h : IsHeap lt l) (x : α) (hx : x ∈ l) : lt x (el l 0) = false := by
  obtain ⟨k, hk, rfl⟩ := List.getElem_of_mem hx
  have := h.least O k hk
  rw [show el l k = l[k] from by have := el_eq l k hk; rw [List.getElem?_eq_getElem hk] at this; simpa using this.symm] at this
  exact this

omit [Inhabited α] in
theorem Ord.irrefl {lt : α → α → Bool} (O : Ord lt) (a : α) : lt a a = false := by
  cases hx : lt a a with
  | false => rfl
  | true => rw [← hx]; exact O.asymm _ _ hx

theorem el_append_right (l : List α) (x : α) : el (l ++ [x]) l.length = x := by
  unfold el
  simp

theorem upInv_push {lt : α → α → Bool} {l : List α} (x : α) (h : IsHeap lt l) : UpInv lt (l ++ [x]) (l.length + 1) l.length := by
  refine ⟨fun k k0 kn ke => ?_, fun k k0 kn kp _ => by omega⟩
  have hk : k < l.length := by omega
  have := h k k0 hk (Nat.zero_le _)
  unfold okAt at this ⊢
  rw [el_append_left _ _ _ hk, el_append_left _ _ _ (by omega)]
  exact this

theorem downInv_pop {lt : α → α → Bool} {l : List α} {n i : Nat} (hl : l.length = n + 1) (hi : i < n) (O : Ord lt) (h : IsHeap lt l) : DownInv lt 0 i (swp l i n) n i := by
  refine ⟨fun k k0 kn _ kp kor => ?_, fun k k0 kn kp i0 _ => ?_⟩
  · have h1 := h k k0 (by omega) (Nat.zero_le _)
    unfold okAt at h1 ⊢
    rw [el_swp _ _ _ _ (by omega) (by omega), el_swp _ _ _ _ (by omega) (by omega), if_neg (by omega), if_neg (by omega), if_neg (by omega), if_neg kp]
    exact h1
  · rw [el_swp _ _ _ _ (by omega) (by omega), el_swp _ _ _ _ (by omega) (by omega), if_neg (by omega), if_neg (by omega), if_neg (by omega), if_neg (by omega)]
    have h1 := h k k0 (by omega) (Nat.zero_le _)
    have h2 := h i i0 (by omega) (Nat.zero_le _)
    unfold okAt at h1 h2
    rw [kp] at h1
    exact O.trans _ _ _ h2 h1

theorem upInv_remove {lt : α → α → Bool} {l : List α} {n i : Nat} (hl : l.length = n + 1) (hi : i < n) (O : Ord lt) (h : IsHeap lt l)
    (hok : ∀ k, 0 < k → k < n → 0 ≤ (k - 1) / 2 → k ≠ i → okAt lt (swp l i n) k) : UpInv lt (swp l i n) n i :=
  ⟨fun k k0 kn ke => hok k k0 kn (Nat.zero_le _) ke, fun k k0 kn kp i0 => (downInv_pop hl hi O h).2 k k0 kn kp i0 (Nat.zero_le _)⟩

theorem split_last {l : List α} {n : Nat} (hl : l.length = n + 1) : l = l.take n ++ [el l n] := by
  refine ext_el (by simp; omega) fun k hk => ?_
  by_cases hkn : k < n
  · rw [el_append_left _ _ _ (by simp; omega)]
    unfold el
    rw [List.getD_eq_getElem?_getD, List.getD_eq_getElem?_getD, List.getElem?_take, if_pos hkn]
  · have : k = n := by omega
    subst this
    have := el_append_right (l.take k) (el l k)
    rw [List.length_take, show min k l.length = k by omega] at this
    exact this.symm

theorem el_take {l : List α} {n k : Nat} (hk : k < n) : el (l.take n) k = el l k := by
  unfold el
  rw [List.getD_eq_getElem?_getD, List.getD_eq_getElem?_getD, List.getElem?_take, if_pos hk]

theorem isHeap_take {lt : α → α → Bool} {l : List α} {n : Nat} (hn : n ≤ l.length) (h : HeapTo lt 0 l n) : IsHeap lt (l.take n) := by
  intro k k0 kn _
  rw [List.length_take, show min n l.length = n by omega] at kn
  have := h k k0 kn (Nat.zero_le _)
  unfold okAt at this ⊢
  rw [el_take kn, el_take (by omega)]
  exact this

theorem downInv_init {lt : α → α → Bool} {l : List α} {n i : Nat} (h : HeapTo lt (i + 1) l n) : DownInv lt i i l n i :=
  ⟨fun k k0 kn kl ki _ => h k k0 kn (by omega), fun k _ _ _ _ _ => by omega⟩

theorem heapTo_of_post {lt : α → α → Bool} {l : List α} {n i : Nat} (h : ∀ k, 0 < k → k < n → i ≤ (k - 1) / 2 → k ≠ i → okAt lt l k) : HeapTo lt i l n :=
  fun k k0 kn kl => h k k0 kn kl (by omega)

theorem heapTo_half {lt : α → α → Bool} (l : List α) (n : Nat) : HeapTo lt (n / 2) l n := fun k _ _ _ => by omega

theorem isHeap_nil {lt : α → α → Bool} : IsHeap lt ([] : List α) := fun k _ hk => by simp at hk

end Go.Proofs.Ythdpajgnigilhaa.HL

/- container/heap's up and down over any value of heap.Interface whose Len, Less and Swap meet their contracts: what they leave is a rearrangement, and in order. -/
namespace Go.Proofs.Ythdpajgnigilhaa
open Go.RowKit

/-- A method is called on an interface value: R holds of what it returns. -/
def InvC (P : Program) (it : Value) (name : String) (args : Array Value) (w : World) (R : Value → World → Prop) : Prop :=
  ∃ f args', (invoke (.fn (.method name) #[]) (#[it] ++ args)).run P w = .ok (.enter f args') w ∧ Calls P f args' w fun e w' => ∃ v, e = .returned v ∧ R v w'

theorem InvC.mono {P : Program} {it : Value} {name : String} {args : Array Value} {w : World} {R R' : Value → World → Prop} (h : InvC P it name args w R) (hR : ∀ v w', R v w' → R' v w') : InvC P it name args w R' := by
  obtain ⟨f, xs, h1, h2⟩ := h
  exact ⟨f, xs, h1, h2.mono fun e w' ⟨v, he, hr⟩ => ⟨v, he, hR v w' hr⟩⟩

theorem wpList_invoke {P : Program} {ops : Array Oper} {rest : List Oper} {o : Oper} {a : Act} {w : World} {Q : Exit → Act → World → Prop} (r : Operand) (name : String) (args : Array Operand) (ts : Array TypeId)
    (ho : o.op = .call { callee := .invoke r name, args := args, argTypes := ts }) (hw : Region.wanted o (yielded ops a.tmps) = true)
    (it : Value) (vs : Array Value) (hit : a.eval r = it) (hvs : args.map a.eval = vs) {R : Value → World → Prop} (hI : InvC P it name vs w R)
    (h : ∀ v w', R v w' → wpList P ops Q rest (a.put o.dst v) w') : wpList P ops Q (o :: rest) a w := by
  refine wpList_step fun K hK => ?_
  rw [if_pos hw]
  obtain ⟨f, xs, h1, h2⟩ := hI
  unfold Oper.wp execOp
  simp only [ho, resolve, Sem.run_bind, Sem.run_pure, Result.andThen_ok, hit, hvs, h1]
  simp only [Oper.upon]
  exact h2.mono fun e w' ⟨v, he, hr⟩ => by subst he; exact hK _ _ (h v w' hr)

section
variable {P : Program} {ops : Array Oper} {rest : List Oper} {a : Act} {w : World} {Q : Exit → Act → World → Prop} {it v1 v2 : Value} {name : String} {R : Value → World → Prop}
  {r x1 x2 : Operand} {ts : Array TypeId} {d : Option Tmp} {ty : TypeId} {pos : String} {af : Array Edge} {g : Option (Nat × Bool)}
theorem wpI0 (hI : InvC P it name #[] w R) (hw : Region.wanted ⟨d, .call { callee := .invoke r name, args := #[], argTypes := ts }, ty, pos, af, g⟩ (yielded ops a.tmps) = true) (hit : a.eval r = it)
    (h : ∀ v w', R v w' → wpList P ops Q rest (a.put d v) w') : wpList P ops Q (⟨d, .call { callee := .invoke r name, args := #[], argTypes := ts }, ty, pos, af, g⟩ :: rest) a w :=
  wpList_invoke r name #[] ts rfl hw it #[] hit (by simp) hI h
theorem wpI1 (hI : InvC P it name #[v1] w R) (hw : Region.wanted ⟨d, .call { callee := .invoke r name, args := #[x1], argTypes := ts }, ty, pos, af, g⟩ (yielded ops a.tmps) = true) (hit : a.eval r = it) (h1 : a.eval x1 = v1)
    (h : ∀ v w', R v w' → wpList P ops Q rest (a.put d v) w') : wpList P ops Q (⟨d, .call { callee := .invoke r name, args := #[x1], argTypes := ts }, ty, pos, af, g⟩ :: rest) a w :=
  wpList_invoke r name #[x1] ts rfl hw it #[v1] hit (by simp [h1]) hI h
theorem wpI2 (hI : InvC P it name #[v1, v2] w R) (hw : Region.wanted ⟨d, .call { callee := .invoke r name, args := #[x1, x2], argTypes := ts }, ty, pos, af, g⟩ (yielded ops a.tmps) = true) (hit : a.eval r = it) (h1 : a.eval x1 = v1) (h2 : a.eval x2 = v2)
    (h : ∀ v w', R v w' → wpList P ops Q rest (a.put d v) w') : wpList P ops Q (⟨d, .call { callee := .invoke r name, args := #[x1, x2], argTypes := ts }, ty, pos, af, g⟩ :: rest) a w :=
  wpList_invoke r name #[x1, x2] ts rfl hw it #[v1, v2] hit (by simp [h1, h2]) hI h
end

/-- A heap.Interface value whose Len, Less and Swap mean a list l, wherever I l holds; F: what else may have changed. -/
structure HeapRep (P : Program) (it : Value) {α : Type} [Inhabited α] (lt : α → α → Bool) (I : List α → World → Prop) (F : World → World → Prop) : Prop where
  refl : ∀ w, F w w
  trans : ∀ w1 w2 w3, F w1 w2 → F w2 w3 → F w1 w3
  ord : HL.Ord lt
  small : ∀ l w, I l w → l.length ≤ 1000000
  len : ∀ l w, I l w → InvC P it "Len" #[] w fun v w' => v = .int .i64 l.length ∧ I l w' ∧ F w w'
  less : ∀ l w, I l w → ∀ i j : Int, 0 ≤ i → i < l.length → 0 ≤ j → j < l.length → InvC P it "Less" #[.int .i64 i, .int .i64 j] w fun v w' => v = .bool (lt (HL.el l i.toNat) (HL.el l j.toNat)) ∧ I l w' ∧ F w w'
  swap : ∀ l w, I l w → ∀ i j : Int, 0 ≤ i → i < l.length → 0 ≤ j → j < l.length → InvC P it "Swap" #[.int .i64 i, .int .i64 j] w fun _ w' => I (HL.swp l i.toNat j.toNat) w' ∧ F w w'

/-- What holds of the list as 'up' goes on. -/
def UpRel {α : Type} [Inhabited α] (lt : α → α → Bool) (I : List α → World → Prop) (F : World → World → Prop) (l0 : List α) (w : World) (n : Nat) (j : Nat) (wr : World) : Prop :=
  ∃ l, I l wr ∧ F w wr ∧ l.Perm l0 ∧ HL.UpInv lt l n j ∧ ∀ k, n ≤ k → HL.el l k = HL.el l0 k

theorem UpRel.step {it : Value} {α : Type} [Inhabited α] {lt : α → α → Bool} {I : List α → World → Prop} {F : World → World → Prop} (H : HeapRep Try.prog it lt I F) {l0 l : List α} {w w1 w2 : World} {n j : Nat}
    (hn : n ≤ l0.length) (hj : j < n) (h0 : 0 < j) (hF : F w w1) (hp : l.Perm l0) (hu : HL.UpInv lt l n j) (hk : ∀ k, n ≤ k → HL.el l k = HL.el l0 k)
    (hl : lt (HL.el l j) (HL.el l ((j - 1) / 2)) = true) (hI : I (HL.swp l ((j - 1) / 2) j) w2) (hF' : F w1 w2) : UpRel lt I F l0 w n ((j - 1) / 2) w2 := by
  have hl0 := hp.length_eq
  refine ⟨_, hI, H.trans _ _ _ hF hF', (HL.swp_perm _ _ _ (by omega) (by omega)).trans hp, hu.step H.ord (by omega) hj h0 hl, fun k kn => ?_⟩
  rw [HL.el_swp _ _ _ _ (by omega) (by omega), if_neg (by omega), if_neg (by omega)]
  exact hk k kn

set_option maxHeartbeats 400000 in
theorem heap_up {it : Value} {α : Type} [Inhabited α] {lt : α → α → Bool} {I : List α → World → Prop} {F : World → World → Prop} (H : HeapRep Try.prog it lt I F)
    (l0 : List α) (w : World) (h0 : I l0 w) (n : Nat) (hn : n ≤ l0.length) (j : Int) (hj0 : 0 ≤ j) (hj : j < n) (hu : HL.UpInv lt l0 n j.toNat) :
    Calls Try.prog 50 #[it, .int .i64 j] w fun e w' => e = .returned (.tuple #[]) ∧ ∃ l, I l w' ∧ F w w' ∧ l.Perm l0 ∧ HL.HeapTo lt 0 l n ∧ ∀ k, n ≤ k → HL.el l k = HL.el l0 k := by
  obtain ⟨j, rfl⟩ := Int.eq_ofNat_of_zero_le hj0
  simp only [Int.toNat_natCast] at hu
  have HS := Lib.hid H; clear H
  have hs0 := HS.out.small _ _ h0
  have hst : UpRel lt I F l0 w n j w := ⟨l0, h0, HS.out.refl _, List.Perm.refl _, hu, fun _ _ => rfl⟩
  have HST := Lib.hid hst; clear hst h0 hu
  have hj1 : j < n := by omega
  clear hj
  go_enter Try.func50, Try.ntmps50
  go_wp2
  go_loopw [1, 4] (fun jv _ wr => ∃ i : Nat, i < n ∧ jv = .int .i64 i ∧ UpRel lt I F l0 w n i wr) (fun jv _ _ => (intOf jv).toNat)
  case atStart => exact ⟨j, hj1, rfl, HST.out⟩
  case round =>
    clear HST hj1 hj0
    obtain ⟨i, hi, rfl, l, hI, hF, hp, hu, hk⟩ := hrel
    have hl0 : l.length ≤ l0.length := Nat.le_of_eq hp.length_eq
    have hl1 : l0.length ≤ l.length := Nat.le_of_eq hp.length_eq.symm
    have HK := Lib.hid hk; clear hk
    have HU := Lib.hid hu; clear hu
    by_cases hi0 : i = 0
    · subst hi0
      go_wp2
      go_end0
      exact ⟨rfl, l, hI, hF, hp, HU.out.done (.inl rfl), HK.out⟩
    · obtain ⟨m, rfl⟩ : ∃ m, i = m + 1 := ⟨i - 1, by omega⟩
      clear hi0
      have e2 : ((m : Int) / 2 == (m : Int) + 1) = false := by rw [beq_eq_false_iff_ne]; omega
      have hb : (m : Int) ≤ 1000000 := by omega
      have hm2 : ((m : Int) / 2).toNat = (m + 1 - 1) / 2 := by omega
      have hL := HS.out.less l wr hI (m + 1) ((m : Int) / 2) (by omega) (by omega) (by omega) (by omega)
      rw [hm2, show ((m : Int) + 1).toNat = m + 1 by omega] at hL
      have HM2 := Lib.hid hm2; clear hm2
      cases hlt : lt (HL.el l (m + 1)) (HL.el l ((m + 1 - 1) / 2)) with
      | false =>
        rw [hlt] at hL
        have HL' := Lib.hid hL; clear hL
        have HLT := Lib.hid hlt; clear hlt
        go_wp2_with ((with_reducible refine wpI2 HL'.out ?_ ?_ ?_ ?_ ?_); rfl; rfl; rfl; rfl; rintro v w1 ⟨rfl, hI1, hF1⟩)
        go_end0
        exact ⟨rfl, l, hI1, HS.out.trans _ _ _ hF hF1, hp, HU.out.done (.inr HLT.out), HK.out⟩
      | true =>
        rw [hlt] at hL
        have HL' := Lib.hid hL; clear hL
        have HLT := Lib.hid hlt; clear hlt
        have HSW := Lib.hid (fun w1 (h : I l w1) => HS.out.swap l w1 h ((m : Int) / 2) (m + 1) (by omega) (by omega) (by omega) (by omega))
        go_wp2_with (first | ((with_reducible refine wpI2 HL'.out ?_ ?_ ?_ ?_ ?_); rfl; rfl; rfl; rfl; rintro v w1 ⟨rfl, hI1, hF1⟩) | ((with_reducible refine wpI2 (HSW.out _ hI1) ?_ ?_ ?_ ?_ ?_); rfl; rfl; rfl; rfl; rintro v w2 ⟨hI2, hF2⟩))
        rw [HM2.out, show ((m : Int) + 1).toNat = m + 1 by omega] at hI2
        go_roundw
        case rel => exact ⟨(m + 1 - 1) / 2, by omega, by rw [show ((m : Int) / 2) = (((m + 1 - 1) / 2 : Nat) : Int) by omega], UpRel.step HS.out hn hi (by omega) (HS.out.trans _ _ _ hF hF1) hp HU.out HK.out HLT.out hI2 hF2⟩
        case measure => simp [intOf]; omega
end Go.Proofs.Ythdpajgnigilhaa

/- container/heap's down over any value of heap.Interface whose Len, Less and Swap meet their contracts. -/
namespace Go.Proofs.Ythdpajgnigilhaa
open Go.RowKit

/-- What holds of the list as 'down' goes on. -/
def DownRel {α : Type} [Inhabited α] (lt : α → α → Bool) (I : List α → World → Prop) (F : World → World → Prop) (l0 : List α) (w : World) (lo n i0 i : Nat) (wr : World) : Prop :=
  ∃ l, I l wr ∧ F w wr ∧ l.Perm l0 ∧ HL.DownInv lt lo i0 l n i ∧ (∀ k, n ≤ k → HL.el l k = HL.el l0 k) ∧ (i = i0 → l = l0)

/-- What 'down' leaves. -/
def DownPost {α : Type} [Inhabited α] (lt : α → α → Bool) (I : List α → World → Prop) (F : World → World → Prop) (l0 : List α) (w : World) (lo n i0 : Nat) (e : Ending) (w' : World) : Prop :=
  ∃ l b, e = .returned (.bool b) ∧ I l w' ∧ F w w' ∧ l.Perm l0 ∧ (∀ k, n ≤ k → HL.el l k = HL.el l0 k) ∧ (b = false → l = l0 ∧ ∀ k, 0 < k → k < n → lo ≤ (k - 1) / 2 → k ≠ i0 → HL.okAt lt l k) ∧ (b = true → HL.HeapTo lt lo l n)

theorem DownRel.step {it : Value} {α : Type} [Inhabited α] {lt : α → α → Bool} {I : List α → World → Prop} {F : World → World → Prop} (H : HeapRep Try.prog it lt I F) {l0 l : List α} {w w1 w2 : World} {lo n i0 i c : Nat}
    (hn : n ≤ l0.length) (hi : i0 ≤ i) (hF : F w w1) (hp : l.Perm l0) (hd : HL.DownInv lt lo i0 l n i) (hk : ∀ k, n ≤ k → HL.el l k = HL.el l0 k) (hc : 2 * i + 1 < n) (hcc : HL.kid lt l n i = c)
    (hl : lt (HL.el l c) (HL.el l i) = true) (hI : I (HL.swp l i c) w2) (hF' : F w1 w2) : i0 ≤ c ∧ i < c ∧ c < n ∧ DownRel lt I F l0 w lo n i0 c w2 := by
  have hl0 := hp.length_eq
  have hcn : c < n ∧ i < c := by subst hcc; unfold HL.kid; split <;> omega
  refine ⟨by omega, hcn.2, hcn.1, _, hI, H.trans _ _ _ hF hF', (HL.swp_perm _ _ _ (by omega) (by omega)).trans hp, ?_, fun k kn => ?_, fun e => by omega⟩
  · subst hcc
    exact hd.step H.ord (by omega) hi hc hl
  · rw [HL.el_swp _ _ _ _ (by omega) (by omega), if_neg (by omega), if_neg (by omega)]
    exact hk k kn

theorem DownPost.mk {it : Value} {α : Type} [Inhabited α] {lt : α → α → Bool} {I : List α → World → Prop} {F : World → World → Prop} (H : HeapRep Try.prog it lt I F) {l0 l : List α} {w w1 w2 : World} {lo n i0 i : Nat}
    (hi : i0 ≤ i) (hF : F w w1) (hp : l.Perm l0) (hd : HL.DownInv lt lo i0 l n i) (hk : ∀ k, n ≤ k → HL.el l k = HL.el l0 k) (he : i = i0 → l = l0) (hI : I l w2) (hF' : F w1 w2)
    (hc : n ≤ 2 * i + 1 ∨ lt (HL.el l (HL.kid lt l n i)) (HL.el l i) = false) : DownPost lt I F l0 w lo n i0 (.returned (.bool (decide (i0 < i)))) w2 := by
  have hdone := hd.done H.ord hc
  refine ⟨l, _, rfl, hI, H.trans _ _ _ hF hF', hp, hk, fun hb => ?_, fun hb => ?_⟩
  · have : i = i0 := by simp at hb; omega
    exact ⟨he this, fun k k0 kn kl ki => hdone k k0 kn kl (.inl ki)⟩
  · have : i0 < i := by simp at hb; omega
    exact fun k k0 kn kl => hdone k k0 kn kl (.inr this)

set_option maxHeartbeats 1000000 in
theorem heap_down {it : Value} {α : Type} [Inhabited α] {lt : α → α → Bool} {I : List α → World → Prop} {F : World → World → Prop} (H : HeapRep Try.prog it lt I F)
    (l0 : List α) (w : World) (h0 : I l0 w) (lo : Nat) (n i0 : Int) (hn0 : 0 ≤ n) (hn : n ≤ l0.length) (hi0 : 0 ≤ i0) (hd : HL.DownInv lt lo i0.toNat l0 n.toNat i0.toNat) (hib : i0 ≤ 1000000) :
    Calls Try.prog 44 #[it, .int .i64 i0, .int .i64 n] w (DownPost lt I F l0 w lo n.toNat i0.toNat) := by
  obtain ⟨i0, rfl⟩ := Int.eq_ofNat_of_zero_le hi0
  obtain ⟨n, rfl⟩ := Int.eq_ofNat_of_zero_le hn0
  simp only [Int.toNat_natCast] at hd ⊢
  have HS := Lib.hid H; clear H
  have hs0 := HS.out.small _ _ h0
  have hst : DownRel lt I F l0 w lo n i0 i0 w := ⟨l0, h0, HS.out.refl _, List.Perm.refl _, hd, fun _ _ => rfl, fun _ => rfl⟩
  have HST := Lib.hid hst; clear hst h0 hd
  have hn1 : n ≤ l0.length := by omega
  clear hn
  go_enter Try.func44, Try.ntmps44
  go_wp2
  go_loopw [7, 8, 9, 10] (fun iv _ _ _ wr => ∃ i : Nat, i0 ≤ i ∧ (i = i0 ∨ i < n) ∧ iv = .int .i64 i ∧ DownRel lt I F l0 w lo n i0 i wr) (fun iv _ _ _ _ => n - (intOf iv).toNat)
  case atStart => exact ⟨i0, Nat.le_refl _, .inl rfl, rfl, HST.out⟩
  case round =>
    clear HST hi0 hn0
    obtain ⟨i, hi, hin, rfl, l, hI, hF, hp, hd, hk, he⟩ := hrel
    have hl0 : l.length ≤ l0.length := Nat.le_of_eq hp.length_eq
    have hl1 : l0.length ≤ l.length := Nat.le_of_eq hp.length_eq.symm
    have HK := Lib.hid hk; clear hk
    have HD := Lib.hid hd; clear hd
    have HE := Lib.hid he; clear he
    have hib2 : i ≤ 1000000 := by omega
    by_cases hc : 2 * i + 1 < n
    · have hin' : i < n := by omega
      clear hin
      have HL1 := Lib.hid (fun (h2 : 2 * i + 2 < n) => HS.out.less l wr hI (2 * (i : Int) + 1 + 1) (2 * (i : Int) + 1) (by omega) (by omega) (by omega) (by omega))
      have HL2 := Lib.hid (fun w1 (h : I l w1) (c : Int) (hc0 : 0 ≤ c) (hcn : c < n) => HS.out.less l w1 h c i (by omega) (by omega) (by omega) (by omega))
      have HSW := Lib.hid (fun w1 (h : I l w1) (c : Int) (hc0 : 0 ≤ c) (hcn : c < n) => HS.out.swap l w1 h i c (by omega) (by omega) (by omega) (by omega))
      have e1 : (2 * (i : Int) + 1 + 1).toNat = 2 * i + 2 := by omega
      have e2 : (2 * (i : Int) + 1).toNat = 2 * i + 1 := by omega
      have E1 := Lib.hid e1; have E2 := Lib.hid e2; clear e1 e2
      by_cases h2 : 2 * i + 2 < n
      · have hL := HL1.out h2
        clear HL1
        rw [E1.out, E2.out] at hL
        cases h1 : lt (HL.el l (2 * i + 2)) (HL.el l (2 * i + 1)) with
        | true =>
          rw [h1] at hL
          have HL1 := Lib.hid hL; clear hL
          have HC := Lib.hid (show HL.kid lt l n i = 2 * i + 2 by unfold HL.kid; rw [if_pos ⟨h2, h1⟩])
          clear h1
          have HLB := Lib.hid (fun w1 (h : I l w1) => HL2.out w1 h (2 * (i : Int) + 1 + 1) (by omega) (by omega))
          have HSB := Lib.hid (fun w1 (h : I l w1) => HSW.out w1 h (2 * (i : Int) + 1 + 1) (by omega) (by omega))
          clear HL2 HSW
          rw [E1.out, Int.toNat_natCast] at HLB HSB
          cases h3 : lt (HL.el l (2 * i + 2)) (HL.el l i) with
          | false =>
            rw [h3] at HLB
            have H3 := Lib.hid h3; clear h3
            go_wp2_with (first | ((with_reducible refine wpI2 HL1.out ?_ ?_ ?_ ?_ ?_); rfl; rfl; rfl; rfl; rintro v w1 ⟨rfl, hI1, hF1⟩) | ((with_reducible refine wpI2 (HLB.out _ hI1) ?_ ?_ ?_ ?_ ?_); rfl; rfl; rfl; rfl; rintro v w2 ⟨rfl, hI2, hF2⟩))
            go_ret
            exact DownPost.mk HS.out hi hF hp HD.out HK.out HE.out hI2 (HS.out.trans _ _ _ hF1 hF2) (.inr (by rw [HC.out]; exact H3.out))
          | true =>
            rw [h3] at HLB
            have H3 := Lib.hid h3; clear h3
            go_wp2_with (first | ((with_reducible refine wpI2 HL1.out ?_ ?_ ?_ ?_ ?_); rfl; rfl; rfl; rfl; rintro v w1 ⟨rfl, hI1, hF1⟩) | ((with_reducible refine wpI2 (HLB.out _ hI1) ?_ ?_ ?_ ?_ ?_); rfl; rfl; rfl; rfl; rintro v w2 ⟨rfl, hI2, hF2⟩) | ((with_reducible refine wpI2 (HSB.out _ hI2) ?_ ?_ ?_ ?_ ?_); rfl; rfl; rfl; rfl; rintro v w3 ⟨hI3, hF3⟩))
            obtain ⟨q1, q2, q3, q4⟩ := DownRel.step HS.out hn1 hi (HS.out.trans _ _ _ hF (HS.out.trans _ _ _ hF1 hF2)) hp HD.out HK.out hc HC.out H3.out hI3 hF3
            go_roundw
            case rel => exact ⟨2 * i + 2, q1, .inr q3, by go_num, q4⟩
            case measure => simp [intOf]; omega
        | false =>
          rw [h1] at hL
          have HL1 := Lib.hid hL; clear hL
          have HC := Lib.hid (show HL.kid lt l n i = 2 * i + 1 by unfold HL.kid; rw [if_neg (fun h => by rw [h1] at h; cases h.2)])
          clear h1
          have HLB := Lib.hid (fun w1 (h : I l w1) => HL2.out w1 h (2 * (i : Int) + 1) (by omega) (by omega))
          have HSB := Lib.hid (fun w1 (h : I l w1) => HSW.out w1 h (2 * (i : Int) + 1) (by omega) (by omega))
          clear HL2 HSW
          rw [E2.out, Int.toNat_natCast] at HLB HSB
          cases h3 : lt (HL.el l (2 * i + 1)) (HL.el l i) with
          | false =>
            rw [h3] at HLB
            have H3 := Lib.hid h3; clear h3
            go_wp2_with (first | ((with_reducible refine wpI2 HL1.out ?_ ?_ ?_ ?_ ?_); rfl; rfl; rfl; rfl; rintro v w1 ⟨rfl, hI1, hF1⟩) | ((with_reducible refine wpI2 (HLB.out _ hI1) ?_ ?_ ?_ ?_ ?_); rfl; rfl; rfl; rfl; rintro v w2 ⟨rfl, hI2, hF2⟩))
            go_ret
            exact DownPost.mk HS.out hi hF hp HD.out HK.out HE.out hI2 (HS.out.trans _ _ _ hF1 hF2) (.inr (by rw [HC.out]; exact H3.out))
          | true =>
            rw [h3] at HLB
            have H3 := Lib.hid h3; clear h3
            go_wp2_with (first | ((with_reducible refine wpI2 HL1.out ?_ ?_ ?_ ?_ ?_); rfl; rfl; rfl; rfl; rintro v w1 ⟨rfl, hI1, hF1⟩) | ((with_reducible refine wpI2 (HLB.out _ hI1) ?_ ?_ ?_ ?_ ?_); rfl; rfl; rfl; rfl; rintro v w2 ⟨rfl, hI2, hF2⟩) | ((with_reducible refine wpI2 (HSB.out _ hI2) ?_ ?_ ?_ ?_ ?_); rfl; rfl; rfl; rfl; rintro v w3 ⟨hI3, hF3⟩))
            obtain ⟨q1, q2, q3, q4⟩ := DownRel.step HS.out hn1 hi (HS.out.trans _ _ _ hF (HS.out.trans _ _ _ hF1 hF2)) hp HD.out HK.out hc HC.out H3.out hI3 hF3
            go_roundw
            case rel => exact ⟨2 * i + 1, q1, .inr q3, by go_num, q4⟩
            case measure => simp [intOf]; omega
      · have HC := Lib.hid (show HL.kid lt l n i = 2 * i + 1 by unfold HL.kid; rw [if_neg (fun h => h2 h.1)])
        clear HL1
        have HLB := Lib.hid (fun w1 (h : I l w1) => HL2.out w1 h (2 * (i : Int) + 1) (by omega) (by omega))
        have HSB := Lib.hid (fun w1 (h : I l w1) => HSW.out w1 h (2 * (i : Int) + 1) (by omega) (by omega))
        clear HL2 HSW
        rw [E2.out, Int.toNat_natCast] at HLB HSB
        cases h3 : lt (HL.el l (2 * i + 1)) (HL.el l i) with
        | false =>
          rw [h3] at HLB
          have H3 := Lib.hid h3; clear h3
          go_wp2_with (first | ((with_reducible refine wpI2 (HLB.out _ hI) ?_ ?_ ?_ ?_ ?_); rfl; rfl; rfl; rfl; rintro v w2 ⟨rfl, hI2, hF2⟩))
          go_ret
          exact DownPost.mk HS.out hi hF hp HD.out HK.out HE.out hI2 hF2 (.inr (by rw [HC.out]; exact H3.out))
        | true =>
          rw [h3] at HLB
          have H3 := Lib.hid h3; clear h3
          go_wp2_with (first | ((with_reducible refine wpI2 (HLB.out _ hI) ?_ ?_ ?_ ?_ ?_); rfl; rfl; rfl; rfl; rintro v w2 ⟨rfl, hI2, hF2⟩) | ((with_reducible refine wpI2 (HSB.out _ hI2) ?_ ?_ ?_ ?_ ?_); rfl; rfl; rfl; rfl; rintro v w3 ⟨hI3, hF3⟩))
          obtain ⟨q1, q2, q3, q4⟩ := DownRel.step HS.out hn1 hi (HS.out.trans _ _ _ hF hF2) hp HD.out HK.out hc HC.out H3.out hI3 hF3
          go_roundw
          case rel => exact ⟨2 * i + 1, q1, .inr q3, by go_num, q4⟩
          case measure => simp [intOf]; omega
    · go_wp2
      go_ret
      exact DownPost.mk HS.out hi hF hp HD.out HK.out HE.out hI (HS.out.refl _) (.inl (by omega))
end Go.Proofs.Ythdpajgnigilhaa

/- container/heap's Push and Pop over any value of heap.Interface whose methods meet their contracts. -/
namespace Go.Proofs.Ythdpajgnigilhaa
open Go.RowKit

set_option maxHeartbeats 400000 in
theorem heap_push {α : Type} [Inhabited α] {lt : α → α → Bool} {it xv : Value} {w : World} {K : World → Prop}
    (hP : InvC Try.prog it "Push" #[xv] w fun _ w1 => ∃ I F l x, HeapRep Try.prog it lt I F ∧ I (l ++ [x]) w1 ∧ HL.IsHeap lt l ∧ ∀ l' w2, I l' w2 → F w1 w2 → l'.Perm (l ++ [x]) → HL.IsHeap lt l' → K w2) :
    Calls Try.prog 43 #[it, xv] w fun e w' => e = .returned (.tuple #[]) ∧ K w' := by
  have HP := Lib.hid hP; clear hP
  go_enter Try.func43, Try.ntmps43
  go_wp2_with (first
    | ((with_reducible refine wpI1 HP.out ?_ ?_ ?_ ?_); rfl; rfl; rfl; rintro v w1 ⟨I, F, l, x, H, hI, hh, hK⟩; have HH := Lib.hid H; clear H; have HK := Lib.hid hK; clear hK; have HLen := Lib.hid (HH.out.len _ _ hI); have hsm := HH.out.small _ _ hI; have HU := Lib.hid (HL.upInv_push x hh); rw [List.length_append, List.length_singleton] at HLen hsm; clear HP)
    | ((with_reducible refine wpI0 HLen.out ?_ ?_ ?_); rfl; rfl; rintro v w2 ⟨rfl, hI2, hF2⟩)
    | (go_at_call 50; (with_reducible refine (heap_up HH.out _ _ hI2 (l.length + 1) ?_ _ ?_ ?_ ?_).mono ?_); simp; omega; omega; rw [Int.toNat_natCast]; exact HU.out; rintro e w3 ⟨rfl, l', hI3, hF3, hp, hh3, hk3⟩))
  go_end0
  exact ⟨rfl, HK.out _ _ hI3 (HH.out.trans _ _ _ hF2 hF3) hp (by unfold HL.IsHeap; rw [hp.length_eq]; simpa using hh3)⟩

theorem pop_end {α : Type} [Inhabited α] {lt : α → α → Bool} {l0 l' : List α} {n i : Nat} (hl : l0.length = n + 1) (hi : i < n + 1) (hp : l'.Perm (HL.swp l0 i n)) (hh : HL.HeapTo lt 0 l' n)
    (hk : HL.el l' n = HL.el (HL.swp l0 i n) n) : l' = l'.take n ++ [HL.el l0 i] ∧ (HL.el l0 i :: l'.take n).Perm l0 ∧ HL.IsHeap lt (l'.take n) := by
  have hlen : l'.length = n + 1 := by rw [hp.length_eq, HL.swp_length, hl]
  have e : HL.el l' n = HL.el l0 i := by rw [hk, HL.el_swp _ _ _ _ (by omega) (by omega), if_pos rfl]
  have e1 := HL.split_last hlen
  rw [e] at e1
  refine ⟨e1, ?_, HL.isHeap_take (by omega) hh⟩
  have p1 : (HL.el l0 i :: l'.take n).Perm (l'.take n ++ [HL.el l0 i]) := (List.perm_append_singleton _ _).symm
  exact p1.trans ((List.Perm.of_eq e1.symm).trans (hp.trans (HL.swp_perm _ _ _ (by omega) (by omega))))

set_option maxHeartbeats 400000 in
theorem heap_pop {α : Type} [Inhabited α] {lt : α → α → Bool} {it : Value} {I : List α → World → Prop} {F : World → World → Prop} (H : HeapRep Try.prog it lt I F) {w : World} {K : Value → World → Prop} (l0 : List α)
    (h0 : I l0 w) (hne : 0 < l0.length) (hh : HL.IsHeap lt l0)
    (hP : ∀ l w1, I (l ++ [HL.el l0 0]) w1 → F w w1 → (HL.el l0 0 :: l).Perm l0 → HL.IsHeap lt l → InvC Try.prog it "Pop" #[] w1 K) :
    Calls Try.prog 34 #[it] w fun e w' => ∃ v, e = .returned v ∧ K v w' := by
  have HP := Lib.hid hP; clear hP
  have HH := Lib.hid H; clear H
  have hsm := HH.out.small _ _ h0
  obtain ⟨n, hn⟩ : ∃ n, l0.length = n + 1 := ⟨l0.length - 1, by omega⟩
  have HLen := Lib.hid (HH.out.len _ _ h0)
  rw [hn] at HLen hsm
  have HN := Lib.hid hn
  have HSW := Lib.hid (fun w1 (h : I l0 w1) => HH.out.swap l0 w1 h 0 n (by omega) (by omega) (by omega) (by omega))
  have HD : Hid (HL.DownInv lt 0 0 (HL.swp l0 0 n) n 0) := by
    by_cases h : 0 < n
    · exact HL.downInv_pop hn h HH.out.ord hh
    · exact ⟨fun k k0 kn => by omega, fun k k0 kn => by omega⟩
  have hls : n ≤ (HL.swp l0 0 n).length := by rw [HL.swp_length]; omega
  clear hn hne hh
  rw [Int.toNat_natCast, Int.toNat_zero] at HSW
  go_enter Try.func34, Try.ntmps34
  go_wp2_with (first
    | ((with_reducible refine wpI0 HLen.out ?_ ?_ ?_); rfl; rfl; rintro v w1 ⟨rfl, hI1, hF1⟩; clear HLen)
    | ((with_reducible refine wpI2 (HSW.out _ hI1) ?_ ?_ ?_ ?_ ?_); rfl; rfl; rfl; rfl; rintro v w2 ⟨hI2, hF2⟩)
    | (go_at_call 44; (with_reducible refine (heap_down HH.out _ _ hI2 0 _ _ ?_ ?_ ?_ ?_ ?_).mono ?_); omega; omega; omega; simp only [Int.toNat_natCast, Int.toNat_zero]; exact HD.out; omega; simp only [Int.toNat_natCast, Int.toNat_zero]; rintro e w3 ⟨l', b, rfl, hI3, hF3, hp, hk, hb0, hb1⟩; have HB := Lib.hid (And.intro hb0 hb1); clear hb0 hb1; have HK := Lib.hid (hk n (by simp)); clear hk; have hh : HL.HeapTo lt 0 l' n := (by cases b with
        | false => exact HL.heapTo_of_post (HB.out.1 rfl).2
        | true => exact HB.out.2 rfl); have hend := pop_end HN.out (by omega) hp hh HK.out; have HI3 := Lib.hid (by have := hI3; rw [hend.1] at this; exact this); have HI := Lib.hid (HP.out _ _ HI3.out (HH.out.trans _ _ _ hF1 (HH.out.trans _ _ _ hF2 hF3)) hend.2.1 hend.2.2); clear HI3 hend HK HB hh)
    | ((with_reducible refine wpI0 HI.out ?_ ?_ ?_); rfl; rfl; rintro v w4 hK4))
  go_ret
  exact ⟨_, rfl, hK4⟩

end Go.Proofs.Ythdpajgnigilhaa

/- Contracts of cmp.isNaN, cmp.Compare and cmp.Or at int: what they answer; the world stays, but for draws. -/
namespace Go.Proofs.Ythdpajgnigilhaa
open Go.RowKit

theorem ret_int {k : IntKind} {a b : Int} (h : a = b) : Ending.returned (.int k a) = .returned (.int k b) := by rw [h]

/-- cmp.Compare on Go's ints. -/
def cmpI (a b : Int) : Int := if a < b then -1 else if b < a then 1 else 0

theorem isNaN_int (a : Int) (w : World) :
    Calls Try.prog 59 #[.int .i64 a] w fun e w' => e = .returned (.bool false) ∧ w = w' := by
  have hc : (a != a) = false := by simp
  go_enter Try.func59, Try.ntmps59
  go_wp2
  go_ret
  exact ⟨by simp, rfl⟩

theorem compare_int (a b : Int) (w : World) :
    Calls Try.prog 55 #[.int .i64 a, .int .i64 b] w fun e w' => e = .returned (.int .i64 (cmpI a b)) ∧ w = w' := by
  by_cases h : a < b
  · have he : cmpI a b = -1 := by simp [cmpI, h]
    rw [he]; clear he
    go_enter Try.func55, Try.ntmps55
    go_wp2_with (go_at_call 59; refine (isNaN_int _ _).mono ?_; rintro e w' ⟨rfl, rfl⟩)
    go_ret
    exact ⟨rfl, rfl⟩
  · by_cases h' : b < a
    · have he : cmpI a b = 1 := by simp [cmpI, h, h']
      rw [he]; clear he
      go_enter Try.func55, Try.ntmps55
      go_wp2_with (go_at_call 59; refine (isNaN_int _ _).mono ?_; rintro e w' ⟨rfl, rfl⟩)
      go_ret
      exact ⟨rfl, rfl⟩
    · have he : cmpI a b = 0 := by simp [cmpI, h, h']
      rw [he]; clear he
      go_enter Try.func55, Try.ntmps55
      go_wp2_with (go_at_call 59; refine (isNaN_int _ _).mono ?_; rintro e w' ⟨rfl, rfl⟩)
      go_ret
      exact ⟨rfl, rfl⟩

/-- cmp.Or: the first one that is not 0. -/
def orI : List Int → Int
  | [] => 0
  | x :: l => if x = 0 then orI l else x

theorem orI_drop {xs : List Int} {k : Nat} (hk : k < xs.length) : orI (xs.drop k) = if xs.getD k 0 = 0 then orI (xs.drop (k + 1)) else xs.getD k 0 := by
  rw [List.drop_eq_getElem_cons hk]
  simp [orI, List.getD_eq_getElem?_getD, List.getElem?_eq_getElem hk]

theorem or_int (b off : Nat) (xs : List Int) (cap : Nat) (w : World) (hl : xs.length ≤ 1000) (hc : ∀ i, i < xs.length → w.cell? ⟨b, off + i, none⟩ = some (.int .i64 (xs.getD i 0))) :
    Calls Try.prog 54 #[.slice (some ⟨b, off, none⟩) xs.length cap] w fun e w' => e = .returned (.int .i64 (orI xs)) ∧ w = w' := by
  have HC := Lib.hid hc; clear hc
  go_enter Try.func54, Try.ntmps54
  go_wp2
  go_loop [2, 5, 8] (fun _ _ i => ∃ k : Nat, k ≤ xs.length ∧ i = .int .i64 k ∧ orI (xs.drop k) = orI xs) (fun _ _ i => xs.length - (intOf i).toNat)
  case atStart => exact ⟨0, Nat.zero_le _, rfl, by simp⟩
  case round =>
    obtain ⟨k, hk, rfl, he⟩ := hrel
    have HE := Lib.hid he; clear he
    by_cases hlt : k < xs.length
    · have hcell := HC.out k hlt
      have hd := Lib.hid (orI_drop hlt)
      by_cases hz : xs.getD k 0 = 0
      · have hb : (xs.getD k 0 != 0) = false := bne_eq_false_iff_eq.2 hz
        have HZ := Lib.hid hz; clear hz
        generalize xs.getD k 0 = x at *
        go_wp2
        go_round
        case rel => exact ⟨k + 1, by omega, by go_num, by rw [← HE.out, hd.out, if_pos HZ.out]⟩
        case measure => simp [intOf]; omega
      · have hb : (xs.getD k 0 != 0) = true := bne_iff_ne.2 hz
        have HZ := Lib.hid hz; clear hz
        generalize xs.getD k 0 = x at *
        go_wp2
        go_ret
        exact ⟨ret_int (by rw [← HE.out, hd.out, if_neg HZ.out]), rfl⟩
    · go_wp2
      go_ret
      exact ⟨ret_int (by rw [← HE.out, List.drop_of_length_le (by omega)]; rfl), rfl⟩
end Go.Proofs.Ythdpajgnigilhaa

/- Frames: which blocks of memory a call may have changed; rows of cells; small facts (no function of the program is named). -/
namespace Go.Proofs.Ythdpajgnigilhaa
open Go.RowKit

/-- Only blocks in S, and new ones, may have changed. -/
structure Fr (S : Nat → Prop) (w w' : World) : Prop where
  os : w'.os = w.os
  tape : w'.tape = w.tape
  output : w'.output = w.output
  size : w.heap.size ≤ w'.heap.size
  block : ∀ k, k < w.heap.size → ¬ S k → w'.heap[k]? = w.heap[k]?

section
variable {S T : Nat → Prop} {w w1 w2 : World}
theorem Fr.refl (S : Nat → Prop) (w : World) : Fr S w w := ⟨rfl, rfl, rfl, Nat.le_refl _, fun _ _ _ => rfl⟩
theorem Fr.trans (h : Fr S w w1) (k : Fr T w1 w2) (hT : ∀ i, T i → i < w.heap.size → S i) : Fr S w w2 :=
  ⟨k.os.trans h.os, k.tape.trans h.tape, k.output.trans h.output, Nat.le_trans h.size k.size, fun i hi hs =>
    (k.block i (Nat.lt_of_lt_of_le hi h.size) (fun t => hs (hT i t hi))).trans (h.block i hi hs)⟩
theorem Fr.mono (h : Fr S w w1) (hT : ∀ i, i < w.heap.size → S i → T i) : Fr T w w1 :=
  ⟨h.os, h.tape, h.output, h.size, fun i hi hs => h.block i hi (fun s => hs (hT i hi s))⟩
theorem Fr.drew (h : Fr S w w1) : Fr S w w1.drew := ⟨h.os, h.tape, h.output, h.size, h.block⟩
theorem Fr.drewN (h : Fr S w w1) (n : Nat) : Fr S w (w1.drewN n) := ⟨h.os, h.tape, h.output, h.size, h.block⟩
theorem Fr.alloc (h : Fr S w w1) (o : Obj) : Fr S w (w1.alloc o) :=
  ⟨h.os, h.tape, h.output, Nat.le_trans h.size (by simp), fun i hi hs => (Below.heap_alloc w1 o i (Nat.lt_of_lt_of_le hi h.size)).trans (h.block i hi hs)⟩
theorem Fr.setCell (h : Fr S w w1) {p : Addr} (hp : p.block < w.heap.size → S p.block) (u : Value) : Fr S w (w1.setCell p u) :=
  ⟨h.os, h.tape, h.output, by simpa [World.setCell] using h.size, fun i hi hs => (Below.heap_setCell w1 p u i (by
    rintro rfl
    exact hs (hp hi))).trans (h.block i hi hs)⟩
theorem Fr.of_below {B : Nat} (h : Below B w w1) (hS : ∀ i, i < w.heap.size → B ≤ i → S i) : Fr S w w1 :=
  ⟨h.os, h.tape, h.output, h.size, fun i hi hs => h.block i (by rcases Nat.lt_or_ge i B with g | g; exact g; exact absurd (hS i hi g) hs)⟩
theorem Fr.of_all (h : Below w.heap.size w w1) : Fr S w w1 := Fr.of_below h (fun i hi hb => by omega)
theorem Fr.of_grown {row : Option Nat} (h : w.grownBy w1 row) (hS : ∀ i, i < w.heap.size → row = some i → S i) : Fr S w w1 :=
  ⟨h.os, h.tape, h.output, h.size, fun i hi hs => h.block i hi (fun e => hs (hS i hi e.symm))⟩
theorem Fr.below {B : Nat} (h : Fr S w w1) (hB : B ≤ w.heap.size) (hS : ∀ i, S i → B ≤ i) : Below B w w1 :=
  ⟨h.os, h.tape, h.output, h.size, fun i hi => h.block i (by omega) (fun s => by have := hS i s; omega)⟩
theorem Fr.cell (h : Fr S w w1) {p : Addr} (hp : p.block < w.heap.size) (hs : ¬ S p.block) : w1.cell? p = w.cell? p := World.cell?_of_block (h.block _ hp hs)
theorem Fr.frozen (h : Fr S w w1) {p : Addr} (hp : p.block < w.heap.size) (hs : ¬ S p.block) : w1.frozen? p = w.frozen? p := World.frozen?_of_block (h.block _ hp hs)
theorem Fr.grown {row : Option Nat} (h : Fr S w w1) (hS : ∀ i, S i → row = some i) : w.grownBy w1 row :=
  ⟨h.os, h.tape, h.output, h.size, fun i hi hne => h.block i hi (fun s => hne (hS i s).symm)⟩
theorem Fr.owns {base : Nat} {e : TypeId} {size n : Nat} {v : Value} {xs : List Value} (h : Fr S w w1) (ho : w.ownsRow base e size v n xs) (hS : ∀ g, v.ownBlock = some g → ¬ S g) : w1.ownsRow base e size v n xs := by
  refine ⟨ho.1, ?_⟩
  rcases ho.2 with hv | ⟨g, cap, cur, hv, hb, hg, hrest⟩
  · exact .inl hv
  · refine .inr ⟨g, cap, cur, hv, hb, ?_, hrest⟩
    have hlt : g < w.heap.size := by
      rcases Nat.lt_or_ge g w.heap.size with h | h
      · exact h
      · rw [Array.getElem?_eq_none h] at hg; cases hg
    rw [h.block g hlt (hS g (by rw [hv]; rfl))]
    exact hg
end

theorem cell_lt {w : World} {p : Addr} {v : Value} (h : w.cell? p = some v) : p.block < w.heap.size := by
  rcases Nat.lt_or_ge p.block w.heap.size with g | g
  · exact g
  · unfold World.cell? at h
    rw [Array.getElem?_eq_none g] at h
    cases h

/-- A region whose head only reads or calls quietly, and whose tail goes in one order: the world behind the draw is any that S holds of. -/
theorem region_tail {P : Program} {id : Nat} {Q : Exit → Act → World → Prop} {a : Act} {w : World} {l : List Oper} (n : Nat) (hm : P.follows .mixedOrders = true) (hB : Region.lexTailB .any l.toArray n = true)
    (S : World → Prop) (hS : S w.drew) (h : ∀ V, S V → wpStill P l.toArray V (fun a' => wpList P l.toArray Q (l.drop n) a' V) (l.take n) a) : (Code.region id l.toArray true).wp P Q a w :=
  wp_region_still_tail n hm hB (h _ hS)

/-- A region that only reads or calls quietly, in the order of the text. -/
theorem region_all {P : Program} {id : Nat} {Q : Exit → Act → World → Prop} {a : Act} {w : World} {l : List Oper} (hm : P.follows .mixedOrders = true) (hB : Region.lexB .any l.toArray = true)
    (S : World → Prop) (hS : S w.drew) (h : ∀ V, S V → wpStill P l.toArray V (fun a' => Q .normal a' V) l a) : (Code.region id l.toArray true).wp P Q a w :=
  wp_region_still_lit hm hB (h _ hS)

theorem still_of {P : Program} {f : FuncId} {args : Array Value} {w : World} {v : Value} (h : Calls P f args w fun e w' => e = .returned v ∧ w = w') : Calls P f args w fun e w' => e = .returned v ∧ w' = w :=
  h.mono fun _ _ ⟨a, b⟩ => ⟨a, b.symm⟩

/-- The cells of a list of things of 'size' cells each. -/
def rowOf {α : Type} (f : α → List Value) (l : List α) : List Value := l.flatMap f

section
variable {α : Type} [Inhabited α] (f : α → List Value) {size : Nat}
omit [Inhabited α] in
theorem rowOf_length (hf : ∀ x, (f x).length = size) (l : List α) : (rowOf f l).length = l.length * size := by
  induction l with
  | nil => simp [rowOf]
  | cons x l ih => simp only [rowOf, List.flatMap_cons, List.length_append, List.length_cons] at *; rw [ih, hf, Nat.succ_mul]; omega
omit [Inhabited α] in
theorem rowOf_append (l m : List α) : rowOf f (l ++ m) = rowOf f l ++ rowOf f m := by simp [rowOf]
omit [Inhabited α] in
theorem rowOf_one (x : α) : rowOf f [x] = f x := by simp [rowOf]
theorem rowOf_at (hf : ∀ x, (f x).length = size) (l : List α) (k c : Nat) (hk : k < l.length) (hc : c < size) : (rowOf f l)[k * size + c]? = (f (l.getD k default))[c]? := by
  induction l generalizing k with
  | nil => simp at hk
  | cons x l ih =>
    cases k with
    | zero => simp only [rowOf, List.flatMap_cons, Nat.zero_mul, Nat.zero_add, List.getD_cons_zero]; rw [List.getElem?_append_left (by rw [hf]; exact hc)]
    | succ k =>
      simp only [rowOf, List.flatMap_cons, List.getD_cons_succ]
      rw [List.getElem?_append_right (by rw [hf, Nat.succ_mul]; omega), hf, show (k + 1) * size + c - size = k * size + c by rw [Nat.succ_mul]; omega]
      exact ih k (by simpa using hk)
end

theorem owns_len {w : World} {base : Nat} {e : TypeId} {size n : Nat} {v : Value} {xs : List Value} (h : w.ownsRow base e size v n xs) (hn : 0 < n) : ∃ g cap, v = .slice (some ⟨g, 0, none⟩) n cap ∧ base ≤ g ∧ g < w.heap.size ∧ n ≤ cap := by
  rcases h.2 with ⟨_, h0⟩ | ⟨g, cap, cur, hv, hb, hg, hc, _⟩
  · omega
  · refine ⟨g, cap, hv, hb, ?_, hc⟩
    rcases Nat.lt_or_ge g w.heap.size with h | h
    · exact h
    · rw [Array.getElem?_eq_none h] at hg; cases hg

/-- An owned row's slice, whatever it is: its parts. -/
theorem owns_slice {w : World} {base : Nat} {e : TypeId} {size n : Nat} {v : Value} {xs : List Value} (h : w.ownsRow base e size v n xs) : ∃ p cap, v = .slice p n cap := by
  rcases h.2 with ⟨hv, h0⟩ | ⟨g, cap, cur, hv, _⟩
  · exact ⟨none, 0, by rw [hv, h0]⟩
  · exact ⟨_, cap, hv⟩

theorem new_cells (w : World) (cs : List Value) (t : TypeId) : ∀ j u, cs[j]? = some u → (w.alloc (.cells cs.toArray t)).cell? ((⟨w.heap.size, 0, none⟩ : Addr).add j) = some u := by
  intro j u hu
  have h : (w.alloc (.cells cs.toArray t)).heap[w.heap.size]? = some (.cells cs.toArray t (0, 0)) := heap_alloc_new w _
  have e : ((⟨w.heap.size, 0, none⟩ : Addr).add j) = ⟨w.heap.size, j, none⟩ := by
    unfold Addr.add
    split
    · rename_i h0; rw [h0]
    · simp
  rw [e, cell_of_row _ _ _ _ _ _ h]
  simpa using hu

/-- Where an appended row lies: where it lay, or in a new block. -/
def Lies (v : Value) (g H : Nat) : Prop := v.ownBlock = some g ∨ H ≤ g

/-- Behind an append to a row, one block laid ahead of it: a block that is not the row's is as it was. -/
theorem push_facts {w w1 : World} {o : Obj} {v : Value} {ab : Nat} (hlt : ab < w.heap.size) (hne : v.ownBlock ≠ some ab) (hgr : (w.alloc o).drew.grownBy w1 v.ownBlock) : w1.heap[ab]? = w.heap[ab]? ∧ Fr (fun k => k = ab ∨ v.ownBlock = some k) w w1 :=
  ⟨(hgr.block ab (by simp; omega) (fun e => hne e.symm)).trans (Below.heap_alloc w o ab hlt), Fr.trans (((Fr.refl _ w).alloc _).drew) (Fr.of_grown hgr (fun i _ h => h)) (fun i h _ => .inr h)⟩

theorem cell_set_same (w : World) (p : Addr) (u v : Value) (h : w.cell? p = some v) : (w.setCell p u).cell? p = some u := by
  unfold World.cell? at h
  unfold World.cell? World.setCell
  simp only [Array.getElem?_modify, if_true]
  cases hb : w.heap[p.block]? with
  | none => rw [hb] at h; cases h
  | some o =>
    rw [hb] at h
    cases o with
    | cells c e fz =>
      simp only [] at h
      by_cases hs : p.spot.isSome = true
      · simp [hs] at h
      · simp only [hs] at h
        have hlt := (Array.getElem?_eq_some_iff.1 h).1
        simp [hs, hlt]
    | _ => cases h

theorem frozen_set (w : World) (p q : Addr) (u : Value) : (w.setCell p u).frozen? q = w.frozen? q := by
  unfold World.frozen? World.setCell
  simp only [Array.getElem?_modify]
  by_cases h : p.block = q.block
  · simp only [h, if_true]
    cases w.heap[q.block]? with
    | none => rfl
    | some o => cases o <;> rfl
  · simp only [h, if_false]

/-- In block b all cells but that at o are as they were. -/
def Others (b o : Nat) (w w' : World) : Prop := ∀ k, k ≠ o → w'.cell? ⟨b, k, none⟩ = w.cell? ⟨b, k, none⟩ ∧ w'.frozen? ⟨b, k, none⟩ = w.frozen? ⟨b, k, none⟩

theorem Others.trans {b o : Nat} {w w1 w2 : World} (h : Others b o w w1) (k : Others b o w1 w2) : Others b o w w2 := fun i hi => ⟨(k i hi).1.trans (h i hi).1, (k i hi).2.trans (h i hi).2⟩
theorem Others.of_block {b o : Nat} {w w1 : World} (h : w1.heap[b]? = w.heap[b]?) : Others b o w w1 := fun _ _ => ⟨World.cell?_of_block h, World.frozen?_of_block h⟩
theorem Others.set (b o : Nat) (w : World) (u : Value) : Others b o w (w.setCell ⟨b, o, none⟩ u) := fun k hk =>
  ⟨World.cell?_setCell_other _ _ _ _ (by intro e; injection e with _ h _; omega), frozen_set _ _ _ _⟩

/-- What is left by 'x.f = append(x.f, ..)': the slot holds the grown slice, the row is owned. -/
theorem push_end {w w1 : World} {v : Value} {base : Nat} {e : TypeId} {size n' g cap H : Nat} {xs : List Value} {ab ao : Nat} (hlt : ab < w.heap.size) (hne : v.ownBlock ≠ some ab) (hpf : w1.heap[ab]? = w.heap[ab]? ∧ Fr (fun k => k = ab ∨ v.ownBlock = some k) w w1)
    (hown : w1.ownsRow base e size (.slice (some ⟨g, 0, none⟩) n' cap) n' xs) (hat : v.ownBlock = some g ∨ g = H) (hH : w.heap.size ≤ H) {u : Value} (hc : w1.cell? ⟨ab, ao, none⟩ = some u) (hf : w1.frozen? ⟨ab, ao, none⟩ = false) :
    (w1.setCell ⟨ab, ao, none⟩ (.slice (some ⟨g, 0, none⟩) n' cap)).cell? ⟨ab, ao, none⟩ = some (.slice (some ⟨g, 0, none⟩) n' cap) ∧ (w1.setCell ⟨ab, ao, none⟩ (.slice (some ⟨g, 0, none⟩) n' cap)).frozen? ⟨ab, ao, none⟩ = false ∧
      (w1.setCell ⟨ab, ao, none⟩ (.slice (some ⟨g, 0, none⟩) n' cap)).ownsRow base e size (.slice (some ⟨g, 0, none⟩) n' cap) n' xs ∧
      Fr (fun k => k = ab ∨ v.ownBlock = some k) w (w1.setCell ⟨ab, ao, none⟩ (.slice (some ⟨g, 0, none⟩) n' cap)) ∧ Lies v g w.heap.size ∧ g ≠ ab ∧ Others ab ao w (w1.setCell ⟨ab, ao, none⟩ (.slice (some ⟨g, 0, none⟩) n' cap)) := by
  obtain ⟨hblk, hfr⟩ := hpf
  have hg : g ≠ ab := by
    rintro rfl
    rcases hat with h | h
    · exact hne h
    · omega
  refine ⟨cell_set_same _ _ _ _ hc, by rw [frozen_set]; exact hf, ?_, hfr.setCell (fun _ => .inl rfl) _, hat.imp id (fun h => by omega), hg, (Others.of_block hblk).trans (Others.set _ _ _ _)⟩
  refine ((Fr.refl (fun k => k = ab) w1).setCell (p := ⟨ab, ao, none⟩) (fun _ => rfl) _).owns hown ?_
  intro g' h'
  have : g = g' := by simpa [Value.ownBlock] using h'
  subst this
  exact hg

theorem rowOf_set3 {α : Type} (f : α → List Value) (hf : ∀ x, (f x).length = 3) (l : List α) (k : Nat) (x : α) (a b c : Value) (hx : f x = [a, b, c]) (hk : k < l.length) :
    (((rowOf f l).set (k * 3) a).set (k * 3 + 1) b).set (k * 3 + 2) c = rowOf f (l.set k x) := by
  induction l generalizing k with
  | nil => simp at hk
  | cons y l ih =>
    cases k with
    | zero =>
      have hy := hf y
      match hfy : f y, hy with
      | [p, q, r], _ => simp [rowOf, hfy, hx]
    | succ k =>
      have h1 : rowOf f (y :: l) = f y ++ rowOf f l := by simp [rowOf]
      have h2 : rowOf f ((y :: l).set (k + 1) x) = f y ++ rowOf f (l.set k x) := by simp [rowOf]
      rw [h1, h2, ← ih k (by simpa using hk)]
      have hl := hf y
      rw [List.set_append_right _ _ (by omega), List.set_append_right _ _ (by omega), List.set_append_right _ _ (by omega), hl,
        show (k + 1) * 3 - 3 = k * 3 by omega, show (k + 1) * 3 + 1 - 3 = k * 3 + 1 by omega, show (k + 1) * 3 + 2 - 3 = k * 3 + 2 by omega]

theorem rowOf_set1 {α : Type} (f : α → List Value) (hf : ∀ x, (f x).length = 1) (l : List α) (k : Nat) (x : α) (a : Value) (hx : f x = [a]) (hk : k < l.length) :
    (rowOf f l).set k a = rowOf f (l.set k x) := by
  induction l generalizing k with
  | nil => simp at hk
  | cons y l ih =>
    cases k with
    | zero =>
      have hy := hf y
      match hfy : f y, hy with
      | [p], _ => simp [rowOf, hfy, hx]
    | succ k =>
      have h1 : rowOf f (y :: l) = f y ++ rowOf f l := by simp [rowOf]
      have h2 : rowOf f ((y :: l).set (k + 1) x) = f y ++ rowOf f (l.set k x) := by simp [rowOf]
      rw [h1, h2, ← ih k (by simpa using hk)]
      have hl := hf y
      rw [List.set_append_right _ _ (by omega), hl, show (k + 1) - 1 = k by omega]

theorem rowOf_set4 {α : Type} (f : α → List Value) (hf : ∀ x, (f x).length = 4) (l : List α) (k : Nat) (x : α) (a b c d : Value) (hx : f x = [a, b, c, d]) (hk : k < l.length) :
    ((((rowOf f l).set (k * 4) a).set (k * 4 + 1) b).set (k * 4 + 2) c).set (k * 4 + 3) d = rowOf f (l.set k x) := by
  induction l generalizing k with
  | nil => simp at hk
  | cons y l ih =>
    cases k with
    | zero =>
      have hy := hf y
      match hfy : f y, hy with
      | [p, q, r, s], _ => simp [rowOf, hfy, hx]
    | succ k =>
      have h1 : rowOf f (y :: l) = f y ++ rowOf f l := by simp [rowOf]
      have h2 : rowOf f ((y :: l).set (k + 1) x) = f y ++ rowOf f (l.set k x) := by simp [rowOf]
      rw [h1, h2, ← ih k (by simpa using hk)]
      have hl := hf y
      rw [List.set_append_right _ _ (by omega), List.set_append_right _ _ (by omega), List.set_append_right _ _ (by omega), List.set_append_right _ _ (by omega), hl,
        show (k + 1) * 4 - 4 = k * 4 by omega, show (k + 1) * 4 + 1 - 4 = k * 4 + 1 by omega, show (k + 1) * 4 + 2 - 4 = k * 4 + 2 by omega, show (k + 1) * 4 + 3 - 4 = k * 4 + 3 by omega]

end Go.Proofs.Ythdpajgnigilhaa

/- net's dues as a heap.Interface: the contracts of its methods. -/
namespace Go.Proofs.Ythdpajgnigilhaa
open Go.RowKit

theorem inv_dues_len (a : Addr) (v : Value) (w : World) (h : w.cell? a = some v) :
    (invoke (.fn (.method "Len") #[]) #[.iface 77 (.pointer (some a))]).run Try.prog w = .ok (.enter 92 #[v]) w := by
  have e : (invoke (.fn (.method "Len") #[]) #[.iface 77 (.pointer (some a))]).run Try.prog w = (match w.cell? a with
      | some v => .ok (.enter 92 #[v]) w
      | none => match w.farLoad Try.prog a false with
        | .ok (v, _) => .ok (.enter 92 #[v]) w
        | .error h => .halt h w) := by kernel_rfl
  rw [e, h]
theorem or_cells (V : World) (x y : Int) (t : TypeId) : ∀ i, i < [x, y].length → (V.alloc (.cells #[.int .i64 x, .int .i64 y] t)).cell? ⟨V.heap.size, 0 + i, none⟩ = some (.int .i64 ([x, y].getD i 0)) := by
  intro i hi
  have hi' : i < 2 := hi
  rw [Nat.zero_add]
  match i, hi' with
  | 0, _ => go_simp
  | 1, _ => go_simp

/-- A packet, when it is due, and its number. -/
structure Nd where
  fr : Int
  to : Int
  da : ByteArray
  at' : Int
  sq : Int
deriving Inhabited
/-- What 'compare' answers. -/
def cmpD (x y : Nd) : Int := orI [cmpI x.at' y.at', cmpI x.sq y.sq]

abbrev dv (x : Nd) : Value := .agg #[.int .i64 x.fr, .int .i64 x.to, .string x.da, .int .i64 x.at', .int .i64 x.sq]

set_option maxHeartbeats 400000 in
set_option maxRecDepth 100000 in
theorem compare_dues (x y : Nd) (w : World) :
    Calls Try.prog 47 #[dv x, dv y] w fun e w' => e = .returned (.int .i64 (cmpD x y)) ∧ Below w.heap.size w w' := by
  obtain ⟨f1, o1, b1, a1, s1⟩ := x
  obtain ⟨f2, o2, b2, a2, s2⟩ := y
  unfold dv
  go_enter Try.func47, Try.ntmps47
  go_wp2_with fail
  refine region_tail 10 (by kernel_rfl) (by kernel_rfl) (fun V => V.cell? ⟨w.heap.size, 0 + 3, none⟩ = some (.int .i64 a1) ∧ V.cell? ⟨w.heap.size, 0 + 4, none⟩ = some (.int .i64 s1) ∧ V.cell? ⟨w.heap.size + 1, 0 + 3, none⟩ = some (.int .i64 a2) ∧ V.cell? ⟨w.heap.size + 1, 0 + 4, none⟩ = some (.int .i64 s2) ∧ Below w.heap.size w V) ⟨by go_simp, by go_simp, by go_simp, by go_simp, (((Below.refl _ _).alloc (Nat.le_refl _) _).alloc (by simp) _).drew⟩ ?_
  rintro V ⟨c1, c2, c3, c4, hb⟩
  simp only [List.take_succ_cons, List.take_zero, List.drop_succ_cons, List.drop_zero]
  iterate 4 still_step
  still_call (still_of (compare_int _ _ _))
  iterate 4 still_step
  still_call (still_of (compare_int _ _ _))
  refine wpStill_nil ?_
  go_wp2_with fail
  refine (or_int V.heap.size 0 [cmpI a1 a2, cmpI s1 s2] 2 _ (by simp) (or_cells V _ _ _)).mono ?_
  rintro e w' ⟨rfl, rfl⟩
  go_wp2
  go_ret
  exact ⟨rfl, hb.alloc (by have := hb.size; omega) _⟩

theorem rowOf_set5 {α : Type} (f : α → List Value) (hf : ∀ x, (f x).length = 5) (l : List α) (k : Nat) (x : α) (a b c d e : Value) (hx : f x = [a, b, c, d, e]) (hk : k < l.length) :
    (((((rowOf f l).set (k * 5) a).set (k * 5 + 1) b).set (k * 5 + 2) c).set (k * 5 + 3) d).set (k * 5 + 4) e = rowOf f (l.set k x) := by
  induction l generalizing k with
  | nil => simp at hk
  | cons y l ih =>
    cases k with
    | zero =>
      have hy := hf y
      match hfy : f y, hy with
      | [p, q, r, s, t], _ => simp [rowOf, hfy, hx]
    | succ k =>
      have h1 : rowOf f (y :: l) = f y ++ rowOf f l := by simp [rowOf]
      have h2 : rowOf f ((y :: l).set (k + 1) x) = f y ++ rowOf f (l.set k x) := by simp [rowOf]
      rw [h1, h2, ← ih k (by simpa using hk)]
      have hl := hf y
      rw [List.set_append_right _ _ (by omega), List.set_append_right _ _ (by omega), List.set_append_right _ _ (by omega), List.set_append_right _ _ (by omega), List.set_append_right _ _ (by omega), hl,
        show (k + 1) * 5 - 5 = k * 5 by omega, show (k + 1) * 5 + 1 - 5 = k * 5 + 1 by omega, show (k + 1) * 5 + 2 - 5 = k * 5 + 2 by omega, show (k + 1) * 5 + 3 - 5 = k * 5 + 3 by omega, show (k + 1) * 5 + 4 - 5 = k * 5 + 4 by omega]

set_option maxHeartbeats 400000 in
set_option maxRecDepth 100000 in
theorem less_nets (g n cap : Nat) (i j : Int) (x y : Nd) (w : World) (hi0 : 0 ≤ i) (hi : i < n) (hj0 : 0 ≤ j) (hj : j < n)
    (hx : w.cell? ⟨g, i.toNat * 5, none⟩ = some (.int .i64 x.fr) ∧ w.cell? ⟨g, i.toNat * 5 + 1, none⟩ = some (.int .i64 x.to) ∧ w.cell? ⟨g, i.toNat * 5 + 2, none⟩ = some (.string x.da) ∧ w.cell? ⟨g, i.toNat * 5 + 3, none⟩ = some (.int .i64 x.at') ∧ w.cell? ⟨g, i.toNat * 5 + 4, none⟩ = some (.int .i64 x.sq))
    (hy : w.cell? ⟨g, j.toNat * 5, none⟩ = some (.int .i64 y.fr) ∧ w.cell? ⟨g, j.toNat * 5 + 1, none⟩ = some (.int .i64 y.to) ∧ w.cell? ⟨g, j.toNat * 5 + 2, none⟩ = some (.string y.da) ∧ w.cell? ⟨g, j.toNat * 5 + 3, none⟩ = some (.int .i64 y.at') ∧ w.cell? ⟨g, j.toNat * 5 + 4, none⟩ = some (.int .i64 y.sq)) :
    Calls Try.prog 93 #[.slice (some ⟨g, 0, none⟩) n cap, .int .i64 i, .int .i64 j] w fun e w' => e = .returned (.bool (decide (cmpD x y < 0))) ∧ Below w.heap.size w w' := by
  have HX := Lib.hid (And.intro hx hy)
  clear hx hy
  go_enter Try.func93, Try.ntmps93
  go_wp2_with fail
  refine region_tail 8 (by kernel_rfl) (by kernel_rfl) (fun V => ((V.cell? ⟨g, i.toNat * 5, none⟩ = some (.int .i64 x.fr) ∧ V.cell? ⟨g, i.toNat * 5 + 1, none⟩ = some (.int .i64 x.to) ∧ V.cell? ⟨g, i.toNat * 5 + 2, none⟩ = some (.string x.da) ∧ V.cell? ⟨g, i.toNat * 5 + 3, none⟩ = some (.int .i64 x.at') ∧ V.cell? ⟨g, i.toNat * 5 + 4, none⟩ = some (.int .i64 x.sq)) ∧
    (V.cell? ⟨g, j.toNat * 5, none⟩ = some (.int .i64 y.fr) ∧ V.cell? ⟨g, j.toNat * 5 + 1, none⟩ = some (.int .i64 y.to) ∧ V.cell? ⟨g, j.toNat * 5 + 2, none⟩ = some (.string y.da) ∧ V.cell? ⟨g, j.toNat * 5 + 3, none⟩ = some (.int .i64 y.at') ∧ V.cell? ⟨g, j.toNat * 5 + 4, none⟩ = some (.int .i64 y.sq))) ∧ Below w.heap.size w V) ⟨HX.out, (Below.refl _ _).drew⟩ ?_
  rintro V ⟨⟨⟨x0, x1, x2, x3, x4⟩, ⟨y0, y1, y2, y3, y4⟩⟩, hb⟩
  simp only [List.take_succ_cons, List.take_zero, List.drop_succ_cons, List.drop_zero]
  iterate 8 still_step
  refine wpStill_nil ?_
  go_wp2_with (go_at_call 47; (with_reducible refine (compare_dues x y V).mono ?_); rintro e w' ⟨rfl, hb'⟩)
  go_ret
  exact ⟨rfl, hb.trans (hb'.mono hb.size)⟩

/-- Five cells written. -/
def put5 (w : World) (g k : Nat) (x : Nd) : World :=
  ((((w.setCell ⟨g, k * 5, none⟩ (.int .i64 x.fr)).setCell ⟨g, k * 5 + 1, none⟩ (.int .i64 x.to)).setCell ⟨g, k * 5 + 2, none⟩ (.string x.da)).setCell ⟨g, k * 5 + 3, none⟩ (.int .i64 x.at')).setCell ⟨g, k * 5 + 4, none⟩ (.int .i64 x.sq)

set_option maxHeartbeats 1000000 in
set_option maxRecDepth 100000 in
theorem swap_nets (g n cap : Nat) (i j : Nat) (x y : Nd) (w : World) (hi : i < n) (hj : j < n) (hij : ¬ i = j)
    (hx : w.cell? ⟨g, i * 5, none⟩ = some (.int .i64 x.fr) ∧ w.cell? ⟨g, i * 5 + 1, none⟩ = some (.int .i64 x.to) ∧ w.cell? ⟨g, i * 5 + 2, none⟩ = some (.string x.da) ∧ w.cell? ⟨g, i * 5 + 3, none⟩ = some (.int .i64 x.at') ∧ w.cell? ⟨g, i * 5 + 4, none⟩ = some (.int .i64 x.sq))
    (hy : w.cell? ⟨g, j * 5, none⟩ = some (.int .i64 y.fr) ∧ w.cell? ⟨g, j * 5 + 1, none⟩ = some (.int .i64 y.to) ∧ w.cell? ⟨g, j * 5 + 2, none⟩ = some (.string y.da) ∧ w.cell? ⟨g, j * 5 + 3, none⟩ = some (.int .i64 y.at') ∧ w.cell? ⟨g, j * 5 + 4, none⟩ = some (.int .i64 y.sq))
    (hf : ∀ k, w.frozen? ⟨g, k, none⟩ = false) :
    Calls Try.prog 94 #[.slice (some ⟨g, 0, none⟩) n cap, .int .i64 i, .int .i64 j] w fun e w' => e = .returned (.tuple #[]) ∧ w' = (put5 (put5 w g i y) g j x).drew := by
  obtain ⟨x0, x1, x2, x3, x4⟩ := hx
  obtain ⟨y0, y1, y2, y3, y4⟩ := hy
  unfold put5
  go_enter Try.func94, Try.ntmps94
  go_wp2
  go_region
  go_end0
  exact ⟨rfl, rfl⟩

set_option maxHeartbeats 1000000 in
set_option maxRecDepth 100000 in
theorem swap_nets_same (g n cap : Nat) (i : Nat) (x : Nd) (w : World) (hi : i < n)
    (hx : w.cell? ⟨g, i * 5, none⟩ = some (.int .i64 x.fr) ∧ w.cell? ⟨g, i * 5 + 1, none⟩ = some (.int .i64 x.to) ∧ w.cell? ⟨g, i * 5 + 2, none⟩ = some (.string x.da) ∧ w.cell? ⟨g, i * 5 + 3, none⟩ = some (.int .i64 x.at') ∧ w.cell? ⟨g, i * 5 + 4, none⟩ = some (.int .i64 x.sq))
    (hf : ∀ k, w.frozen? ⟨g, k, none⟩ = false) :
    Calls Try.prog 94 #[.slice (some ⟨g, 0, none⟩) n cap, .int .i64 i, .int .i64 i] w fun e w' => e = .returned (.tuple #[]) ∧ w' = (put5 (put5 w g i x) g i x).drew := by
  obtain ⟨x0, x1, x2, x3, x4⟩ := hx
  unfold put5
  go_enter Try.func94, Try.ntmps94
  go_wp2
  go_region
  go_end0
  exact ⟨rfl, rfl⟩

theorem info_wt : (Try.prog.info? 75).map (fun i => (i.zero, i.size, i.bytes)) = some (some (.agg #[.int .i64 0, .int .i64 0, .string ByteArray.empty, .int .i64 0, .int .i64 0]), 5, 48) := by kernel_rfl
theorem ta_wt (v : Value) (w : World) : (Instr.typeAssert (.iface 75 v) 20 75 false).run Try.prog w = .ok v w := by kernel_rfl

set_option maxHeartbeats 400000 in
set_option maxRecDepth 100000 in
theorem push_nets (ab ao : Nat) (v : Value) (base n : Nat) (xs : List Value) (x : Nd) (w : World) (hc : w.cell? ⟨ab, ao, none⟩ = some v) (hf : w.frozen? ⟨ab, ao, none⟩ = false)
    (ho : w.ownsRow base 75 5 v n xs) (hne : v.ownBlock ≠ some ab) (hn : n ≤ 1000000) (hb : base ≤ w.heap.size) :
    Calls Try.prog 96 #[.pointer (some ⟨ab, ao, none⟩), .iface 75 (dv x)] w fun e w' => e = .returned (.tuple #[]) ∧
      ∃ g cap, w'.cell? ⟨ab, ao, none⟩ = some (.slice (some ⟨g, 0, none⟩) (n + 1) cap) ∧ w'.frozen? ⟨ab, ao, none⟩ = false ∧ w'.ownsRow base 75 5 (.slice (some ⟨g, 0, none⟩) (n + 1) cap) (n + 1) (xs ++ [.int .i64 x.fr, .int .i64 x.to, .string x.da, .int .i64 x.at', .int .i64 x.sq]) ∧
        Fr (fun k => k = ab ∨ v.ownBlock = some k) w w' ∧ Lies v g w.heap.size ∧ g ≠ ab ∧ Others ab ao w w' := by
  obtain ⟨i0, hi0, hz0, hz1, hz2⟩ := info_parts info_wt
  have hlt := cell_lt hc
  obtain ⟨p, c, rfl⟩ := owns_slice ho
  have HO := Lib.hid ho; clear ho
  have HN := Lib.hid hne; clear hne
  have hta := ta_wt
  go_enter Try.func96, Try.ntmps96
  go_wp2
  go_region_law (refine step_append_lies _ rfl _ _ 47 rfl base 75 i0 _ 5 48 Try.underlying47 hi0 hz0 hz1 hz2 rfl (by omega) (.slice p n c) n xs rfl (HO.out.drew.alloc _) ⟨w.heap.size, 0, none⟩ 1 1 [.int .i64 x.fr, .int .i64 x.to, .string x.da, .int .i64 x.at', .int .i64 x.sq] rfl rfl (new_cells w.drew _ _) (by simp [Value.oneCell']) (by omega) (by unfold maxLen; omega) (by omega) (by simp; omega) (w.heap.size + 1) (by simp) ?_; intro g cap w1 hown hgr hat hg; have HOWN := Lib.hid hown; clear hown; have hpf := push_facts hlt HN.out hgr; have HFR := Lib.hid hpf; have hc1 := (World.cell?_of_block (a := ⟨ab, ao, none⟩) hpf.1).trans hc; have hf1 := (World.frozen?_of_block (a := ⟨ab, ao, none⟩) hpf.1).trans hf; have HAT := Lib.hid hat; clear hpf hat hgr)
  all_goals
    go_end0
    exact ⟨rfl, g, cap, push_end hlt HN.out HFR.out HOWN.out HAT.out (by omega) hc1 hf1⟩

set_option maxHeartbeats 400000 in
set_option maxRecDepth 100000 in
theorem pop_nets (ab ao g n cap : Nat) (x : Nd) (w : World) (hc : w.cell? ⟨ab, ao, none⟩ = some (.slice (some ⟨g, 0, none⟩) (n + 1) cap)) (hf : w.frozen? ⟨ab, ao, none⟩ = false)
    (hx : w.cell? ⟨g, n * 5, none⟩ = some (.int .i64 x.fr) ∧ w.cell? ⟨g, n * 5 + 1, none⟩ = some (.int .i64 x.to) ∧ w.cell? ⟨g, n * 5 + 2, none⟩ = some (.string x.da) ∧ w.cell? ⟨g, n * 5 + 3, none⟩ = some (.int .i64 x.at') ∧ w.cell? ⟨g, n * 5 + 4, none⟩ = some (.int .i64 x.sq)) (hn : n + 1 ≤ cap) (hm : n ≤ 1000000) :
    Calls Try.prog 95 #[.pointer (some ⟨ab, ao, none⟩)] w fun e w' => e = .returned (.iface 75 (dv x)) ∧ w' = (w.setCell ⟨ab, ao, none⟩ (.slice (some ⟨g, 0, none⟩) n cap)).alloc (.cells #[.int .i64 x.fr, .int .i64 x.to, .string x.da, .int .i64 x.at', .int .i64 x.sq] 75) := by
  obtain ⟨x0, x1, x2, x3, x4⟩ := hx
  have hlt := cell_lt hc
  have hlg := cell_lt x0
  go_enter Try.func95, Try.ntmps95
  go_wp2
  go_ret
  exact ⟨rfl, rfl⟩

theorem len_nets (p : Option Addr) (n c : Nat) (w : World) :
    Calls Try.prog 92 #[.slice p n c] w fun e w' => e = .returned (.int .i64 n) ∧ w = w' := by
  go_enter Try.func92, Try.ntmps92
  go_wp2
  go_ret
  exact ⟨rfl, rfl⟩
end Go.Proofs.Ythdpajgnigilhaa

/- net's dues are a heap.Interface in the sense of HeapRep. -/
namespace Go.Proofs.Ythdpajgnigilhaa
open Go.RowKit

def wcells (x : Nd) : List Value := [.int .i64 x.fr, .int .i64 x.to, .string x.da, .int .i64 x.at', .int .i64 x.sq]
def wlt (x y : Nd) : Bool := decide (cmpD x y < 0)

theorem cmpD_lt (x y : Nd) : cmpD x y < 0 ↔ x.at' < y.at' ∨ (x.at' = y.at' ∧ x.sq < y.sq) := by
  simp only [cmpD, orI, cmpI]
  split <;> split <;> (try split) <;> (try split) <;> omega

theorem wlt_iff (x y : Nd) : wlt x y = true ↔ x.at' < y.at' ∨ (x.at' = y.at' ∧ x.sq < y.sq) := by
  unfold wlt
  rw [decide_eq_true_eq, cmpD_lt]

theorem wlt_false (x y : Nd) : wlt x y = false ↔ ¬ (x.at' < y.at' ∨ (x.at' = y.at' ∧ x.sq < y.sq)) := by
  rw [← wlt_iff]
  simp

theorem wlt_ord : HL.Ord wlt where
  asymm := fun a b h => by rw [wlt_iff] at h; rw [wlt_false]; omega
  trans := fun a b c h1 h2 => by rw [wlt_false] at *; omega

theorem inv_nets_len (a : Addr) (v : Value) (w : World) (h : w.cell? a = some v) :
    (invoke (.fn (.method "Len") #[]) #[.iface 77 (.pointer (some a))]).run Try.prog w = .ok (.enter 92 #[v]) w := by
  have e : (invoke (.fn (.method "Len") #[]) #[.iface 77 (.pointer (some a))]).run Try.prog w = (match w.cell? a with
      | some v => .ok (.enter 92 #[v]) w
      | none => match w.farLoad Try.prog a false with
        | .ok (v, _) => .ok (.enter 92 #[v]) w
        | .error h => .halt h w) := by kernel_rfl
  rw [e, h]

theorem inv_nets_two (name : String) (f : FuncId) (i j : Int) (a : Addr) (v : Value) (w : World) (hn : (name = "Less" ∧ f = 93) ∨ (name = "Swap" ∧ f = 94)) (h : w.cell? a = some v) :
    (invoke (.fn (.method name) #[]) (#[.iface 77 (.pointer (some a))] ++ #[.int .i64 i, .int .i64 j])).run Try.prog w = .ok (.enter f #[v, .int .i64 i, .int .i64 j]) w := by
  rcases hn with ⟨rfl, rfl⟩ | ⟨rfl, rfl⟩
  · have e : (invoke (.fn (.method "Less") #[]) (#[.iface 77 (.pointer (some a))] ++ #[.int .i64 i, .int .i64 j])).run Try.prog w = (match w.cell? a with
        | some v => .ok (.enter 93 #[v, .int .i64 i, .int .i64 j]) w
        | none => match w.farLoad Try.prog a false with
          | .ok (v, _) => .ok (.enter 93 #[v, .int .i64 i, .int .i64 j]) w
          | .error h => .halt h w) := by kernel_rfl
    rw [e, h]
  · have e : (invoke (.fn (.method "Swap") #[]) (#[.iface 77 (.pointer (some a))] ++ #[.int .i64 i, .int .i64 j])).run Try.prog w = (match w.cell? a with
        | some v => .ok (.enter 94 #[v, .int .i64 i, .int .i64 j]) w
        | none => match w.farLoad Try.prog a false with
          | .ok (v, _) => .ok (.enter 94 #[v, .int .i64 i, .int .i64 j]) w
          | .error h => .halt h w) := by kernel_rfl
    rw [e, h]

theorem inv_nets_push (a : Addr) (x : Value) (w : World) :
    (invoke (.fn (.method "Push") #[]) (#[.iface 77 (.pointer (some a))] ++ #[x])).run Try.prog w = .ok (.enter 96 #[.pointer (some a), x]) w := by kernel_rfl
theorem inv_nets_pop (a : Addr) (w : World) :
    (invoke (.fn (.method "Pop") #[]) (#[.iface 77 (.pointer (some a))] ++ #[])).run Try.prog w = .ok (.enter 95 #[.pointer (some a)]) w := by kernel_rfl

/-- The slot ⟨ab, ao⟩ holds the slice v, whose row is the list l. -/
def NetsI (ab ao base : Nat) (v : Value) (l : List (Nd)) (w : World) : Prop :=
  w.cell? ⟨ab, ao, none⟩ = some v ∧ w.frozen? ⟨ab, ao, none⟩ = false ∧ w.ownsRow base 75 5 v l.length (rowOf wcells l) ∧ v.ownBlock ≠ some ab ∧ l.length ≤ 1000000 ∧ base ≤ w.heap.size

def OwnW (v : Value) (w w' : World) : Prop := Fr (fun k => v.ownBlock = some k) w w'

theorem wcells_length (x : Nd) : (wcells x).length = 5 := rfl

theorem NetsI.cells {ab ao base g n cap : Nat} {l : List Nd} {w : World} (h : NetsI ab ao base (.slice (some ⟨g, 0, none⟩) n cap) l w) (hn : n = l.length) (k : Nat) (hk : k < l.length) :
    w.cell? ⟨g, k * 5, none⟩ = some (.int .i64 (HL.el l k).fr) ∧ w.cell? ⟨g, k * 5 + 1, none⟩ = some (.int .i64 (HL.el l k).to) ∧ w.cell? ⟨g, k * 5 + 2, none⟩ = some (.string (HL.el l k).da) ∧ w.cell? ⟨g, k * 5 + 3, none⟩ = some (.int .i64 (HL.el l k).at') ∧ w.cell? ⟨g, k * 5 + 4, none⟩ = some (.int .i64 (HL.el l k).sq) := by
  subst hn
  have ho := h.2.2.1
  have r0 := rowOf_at wcells wcells_length l k 0 hk (by omega)
  have r1 := rowOf_at wcells wcells_length l k 1 hk (by omega)
  have r2 := rowOf_at wcells wcells_length l k 2 hk (by omega)
  have r3 := rowOf_at wcells wcells_length l k 3 hk (by omega)
  have r4 := rowOf_at wcells wcells_length l k 4 hk (by omega)
  refine ⟨?_, ?_, ?_, ?_, ?_⟩
  · rw [ho.cellAt (k * 5) (by omega)]; exact r0
  · rw [ho.cellAt (k * 5 + 1) (by omega)]; exact r1
  · rw [ho.cellAt (k * 5 + 2) (by omega)]; exact r2
  · rw [ho.cellAt (k * 5 + 3) (by omega)]; exact r3
  · rw [ho.cellAt (k * 5 + 4) (by omega)]; exact r4

theorem NetsI.keep {ab ao base : Nat} {v : Value} {l : List (Nd)} {w w' : World} (h : NetsI ab ao base v l w) {S : Nat → Prop} (hf : Fr S w w') (h1 : ¬ S ab) (h2 : ∀ g, v.ownBlock = some g → ¬ S g) : NetsI ab ao base v l w' := by
  obtain ⟨a, b, c, d, e, f⟩ := h
  have hlt := cell_lt a
  exact ⟨(hf.cell hlt h1).trans a, (hf.frozen hlt h1).trans b, hf.owns c h2, d, e, Nat.le_trans f hf.size⟩

theorem NetsI.set {ab ao base g n cap : Nat} {l : List Nd} {w : World} (h : NetsI ab ao base (.slice (some ⟨g, 0, none⟩) n cap) l w) (k : Nat) (hk : k < l.length) (x : Nd) :
    NetsI ab ao base (.slice (some ⟨g, 0, none⟩) n cap) (l.set k x) (put5 w g k x) ∧ OwnW (.slice (some ⟨g, 0, none⟩) n cap) w (put5 w g k x) := by
  obtain ⟨a, b, c, d, e, f⟩ := h
  have hn : n = l.length := by
    obtain ⟨p, cp, hv⟩ := owns_slice c
    injection hv
  subst hn
  have s1 := c.stored (k * 5) (.int .i64 x.fr)
  have s2 := s1.1.stored (k * 5 + 1) (.int .i64 x.to)
  have s3 := s2.1.stored (k * 5 + 2) (.string x.da)
  have s4 := s3.1.stored (k * 5 + 3) (.int .i64 x.at')
  have s5 := s4.1.stored (k * 5 + 4) (.int .i64 x.sq)
  have hF : OwnW (.slice (some ⟨g, 0, none⟩) l.length cap) w (put5 w g k x) :=
    (((((Fr.refl (fun i => Value.ownBlock (.slice (some ⟨g, 0, none⟩) l.length cap) = some i) w).setCell (p := ⟨g, k * 5, none⟩) (fun _ => rfl) _).setCell (p := ⟨g, k * 5 + 1, none⟩) (fun _ => rfl) _).setCell (p := ⟨g, k * 5 + 2, none⟩) (fun _ => rfl) _).setCell (p := ⟨g, k * 5 + 3, none⟩) (fun _ => rfl) _).setCell (p := ⟨g, k * 5 + 4, none⟩) (fun _ => rfl) _
  have hlt := cell_lt a
  have hns : ¬ (Value.ownBlock (.slice (some ⟨g, 0, none⟩) l.length cap) = some ab) := d
  refine ⟨⟨(hF.cell hlt hns).trans a, (hF.frozen hlt hns).trans b, ?_, d, by rw [List.length_set]; exact e, Nat.le_trans f hF.size⟩, hF⟩
  rw [List.length_set, ← rowOf_set5 wcells wcells_length l k x _ _ _ _ _ rfl hk]
  exact s5.1

theorem NetsI.drew {ab ao base : Nat} {v : Value} {l : List (Nd)} {w : World} (h : NetsI ab ao base v l w) : NetsI ab ao base v l w.drew := h

theorem reads_rep (ab ao base : Nat) (v : Value) : HeapRep Try.prog (.iface 77 (.pointer (some ⟨ab, ao, none⟩))) wlt (NetsI ab ao base v) (OwnW v) where
  refl := fun w => Fr.refl _ w
  trans := fun w1 w2 w3 h k => Fr.trans h k (fun i hi _ => hi)
  ord := wlt_ord
  small := fun l w h => h.2.2.2.2.1
  len := fun l w h => by
    obtain ⟨p, c, hv⟩ := owns_slice h.2.2.1
    refine ⟨_, _, inv_nets_len ⟨ab, ao, none⟩ v w h.1, ?_⟩
    rw [hv]
    refine (len_nets p l.length c w).mono ?_
    rintro e w' ⟨rfl, rfl⟩
    exact ⟨_, rfl, rfl, by rw [← hv]; exact h, Fr.refl _ _⟩
  less := fun l w h i j hi0 hi hj0 hj => by
    obtain ⟨g, cap, hv, _, hg, _⟩ := owns_len h.2.2.1 (by omega)
    have hx := (hv ▸ h).cells rfl i.toNat (by omega)
    have hy := (hv ▸ h).cells rfl j.toNat (by omega)
    refine ⟨_, _, inv_nets_two "Less" _ i j ⟨ab, ao, none⟩ v w (.inl ⟨rfl, rfl⟩) h.1, ?_⟩
    rw [hv]
    refine (less_nets g l.length cap i j (HL.el l i.toNat) (HL.el l j.toNat) w hi0 hi hj0 hj hx hy).mono ?_
    rintro e w' ⟨rfl, hb⟩
    refine ⟨_, rfl, rfl, ?_, Fr.of_all hb⟩
    rw [← hv]
    exact h.keep (Fr.of_all (S := fun _ => False) hb) (fun h => h) (fun _ _ h => h)
  swap := fun l w h i j hi0 hi hj0 hj => by
    obtain ⟨g, cap, hv, _, hg, _⟩ := owns_len h.2.2.1 (by omega)
    have h' := hv ▸ h
    have hx := h'.cells rfl i.toNat (by omega)
    have hy := h'.cells rfl j.toNat (by omega)
    refine ⟨_, _, inv_nets_two "Swap" _ i j ⟨ab, ao, none⟩ v w (.inr ⟨rfl, rfl⟩) h.1, ?_⟩
    rw [hv]
    obtain ⟨i, rfl⟩ := Int.eq_ofNat_of_zero_le hi0
    obtain ⟨j, rfl⟩ := Int.eq_ofNat_of_zero_le hj0
    rw [Int.toNat_natCast] at hx hy
    have s1 := h'.set i (by omega) (HL.el l j)
    have s2 := s1.1.set j (by rw [List.length_set]; omega) (HL.el l i)
    have hfz : ∀ k, w.frozen? ⟨g, k, none⟩ = false := fun k => h'.2.2.1.frozenAt k
    have hfin : NetsI ab ao base (.slice (some ⟨g, 0, none⟩) l.length cap) (HL.swp l i j) _ ∧ OwnW (.slice (some ⟨g, 0, none⟩) l.length cap) w _ := ⟨s2.1, Fr.trans s1.2 s2.2 (fun k hk _ => hk)⟩
    by_cases hij : i = j
    · subst hij
      refine (swap_nets_same g l.length cap i (HL.el l i) w (by omega) hx hfz).mono ?_
      rintro e w' ⟨rfl, rfl⟩
      rw [Int.toNat_natCast]
      exact ⟨_, rfl, hfin.1.drew, hfin.2.drew⟩
    · refine (swap_nets g l.length cap i j (HL.el l i) (HL.el l j) w (by omega) (by omega) hij hx hy hfz).mono ?_
      rintro e w' ⟨rfl, rfl⟩
      rw [Int.toNat_natCast, Int.toNat_natCast]
      exact ⟨_, rfl, hfin.1.drew, hfin.2.drew⟩
set_option maxHeartbeats 400000 in
/-- heap.Push on reads. -/
theorem heap_push_nets (ab ao base : Nat) (v : Value) (l : List (Nd)) (x : Nd) (w : World) (h : NetsI ab ao base v l w) (hh : HL.IsHeap wlt l) (hn : l.length < 1000000) :
    Calls Try.prog 43 #[.iface 77 (.pointer (some ⟨ab, ao, none⟩)), .iface 75 (dv x)] w fun e w' => e = .returned (.tuple #[]) ∧
      ∃ v' l', NetsI ab ao base v' l' w' ∧ HL.IsHeap wlt l' ∧ l'.Perm (l ++ [x]) ∧ Fr (fun k => k = ab ∨ v.ownBlock = some k) w w' ∧ (∀ g, v'.ownBlock = some g → Lies v g w.heap.size) ∧ Others ab ao w w' := by
  refine heap_push (lt := wlt) ?_
  refine ⟨_, _, inv_nets_push _ _ w, (push_nets ab ao v base l.length (rowOf wcells l) x w h.1 h.2.1 h.2.2.1 h.2.2.2.1 (by omega) h.2.2.2.2.2).mono ?_⟩
  rintro e w1 ⟨rfl, g, cap, hc, hf, ho, hfr, hl, hg, hoth⟩
  refine ⟨_, rfl, NetsI ab ao base (.slice (some ⟨g, 0, none⟩) (l.length + 1) cap), OwnW (.slice (some ⟨g, 0, none⟩) (l.length + 1) cap), l, x, reads_rep ab ao base _, ⟨hc, hf, ?_, fun e => hg (by simpa [Value.ownBlock] using e), by simp; omega, Nat.le_trans h.2.2.2.2.2 hfr.size⟩, hh, ?_⟩
  · rw [rowOf_append, rowOf_one, List.length_append]; exact ho
  · intro l' w2 hI hF hp hh'
    refine ⟨_, l', hI, hh', hp, Fr.trans hfr hF (fun i hi hlt => ?_), fun g' hg' => ?_, hoth.trans (Others.of_block (hF.block ab (cell_lt hc) (fun e => hg (by simpa [Value.ownBlock] using e))))⟩
    · have : g = i := by simpa [Value.ownBlock] using hi
      subst this
      rcases hl with hl | hl
      · exact .inr hl
      · omega
    · have : g = g' := by simpa [Value.ownBlock] using hg'
      subst this
      exact hl

/-- heap.Pop on reads. -/
theorem heap_pop_nets (ab ao base : Nat) (v : Value) (l : List (Nd)) (w : World) (h : NetsI ab ao base v l w) (hh : HL.IsHeap wlt l) (hn : 0 < l.length) :
    Calls Try.prog 34 #[.iface 77 (.pointer (some ⟨ab, ao, none⟩))] w fun e w' => ∃ u, e = .returned u ∧
      ∃ v' l', u = .iface 75 (dv (HL.el l 0)) ∧ NetsI ab ao base v' l' w' ∧ HL.IsHeap wlt l' ∧ (HL.el l 0 :: l').Perm l ∧ Fr (fun k => k = ab ∨ v.ownBlock = some k) w w' ∧ v'.ownBlock = v.ownBlock ∧ Others ab ao w w' := by
  refine heap_pop (reads_rep ab ao base v) l h hn hh ?_
  intro l' w1 hI hF hp hh'
  obtain ⟨g, cap, hv, _, hg, hcap⟩ := owns_len hI.2.2.1 (by simp)
  have hI' := hv ▸ hI
  have hx := hI'.cells rfl l'.length (by simp)
  rw [show HL.el (l' ++ [HL.el l 0]) l'.length = HL.el l 0 from HL.el_append_right l' _] at hx
  have hlen : (l' ++ [HL.el l 0]).length = l'.length + 1 := by simp
  rw [hlen] at hI' hcap
  refine ⟨_, _, inv_nets_pop _ w1, (pop_nets ab ao g l'.length cap (HL.el l 0) w1 hI'.1 hI'.2.1 hx hcap (by have := hI.2.2.2.2.1; simp at this; omega)).mono ?_⟩
  rintro e w2 ⟨rfl, rfl⟩
  have hab : g ≠ ab := fun e => hI'.2.2.2.1 (by rw [e]; rfl)
  have hob : v.ownBlock = some g := by rw [hv]; rfl
  have hF2 : Fr (fun k => k = ab) w1 ((w1.setCell ⟨ab, ao, none⟩ (.slice (some ⟨g, 0, none⟩) l'.length cap)).alloc (.cells #[.int .i64 (HL.el l 0).fr, .int .i64 (HL.el l 0).to, .string (HL.el l 0).da, .int .i64 (HL.el l 0).at', .int .i64 (HL.el l 0).sq] 75)) :=
    ((Fr.refl (fun k => k = ab) w1).setCell (p := ⟨ab, ao, none⟩) (fun _ => rfl) _).alloc _
  refine ⟨_, rfl, .slice (some ⟨g, 0, none⟩) l'.length cap, l', rfl, ⟨?_, ?_, ?_, fun e => hab (by simpa [Value.ownBlock] using e), by have := hI.2.2.2.2.1; simp at this; omega, Nat.le_trans hI.2.2.2.2.2 hF2.size⟩, hh', hp, ?_, hob.symm, ?_⟩
  · rw [World.cell?_alloc_lt _ _ _ (by have := cell_lt hI'.1; simpa [World.setCell] using this)]
    exact cell_set_same _ _ _ _ hI'.1
  · have hlt := cell_lt hI'.1
    have : ((w1.setCell ⟨ab, ao, none⟩ (.slice (some ⟨g, 0, none⟩) l'.length cap)).alloc (.cells #[.int .i64 (HL.el l 0).fr, .int .i64 (HL.el l 0).to, .string (HL.el l 0).da, .int .i64 (HL.el l 0).at', .int .i64 (HL.el l 0).sq] 75)).frozen? ⟨ab, ao, none⟩ = (w1.setCell ⟨ab, ao, none⟩ (.slice (some ⟨g, 0, none⟩) l'.length cap)).frozen? ⟨ab, ao, none⟩ :=
      World.frozen?_of_block (Below.heap_alloc _ _ _ (by simpa [World.setCell] using hlt))
    rw [this, frozen_set]
    exact hI'.2.1
  · have ho := hF2.owns hI'.2.2.1 (fun g' hg' => by have : g = g' := by simpa [Value.ownBlock] using hg'
                                                    subst this; exact hab)
    rw [rowOf_append, hlen] at ho
    exact ownsRow_pop (rowOf_length wcells wcells_length l') ho
  · exact Fr.trans (Fr.mono hF (fun i _ hi => .inr hi)) hF2 (fun i hi _ => .inl hi)
  · have hlt := cell_lt h.1
    have hlt1 := cell_lt hI'.1
    refine (Others.of_block (hF.block ab hlt (fun e => hab (by rw [hob] at e; simpa using e)))).trans ((Others.set ab ao w1 _).trans (Others.of_block (Below.heap_alloc _ _ _ (by simpa [World.setCell] using hlt1))))
end Go.Proofs.Ythdpajgnigilhaa

