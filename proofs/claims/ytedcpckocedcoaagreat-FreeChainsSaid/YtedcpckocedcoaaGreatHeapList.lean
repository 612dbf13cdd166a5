/- Plain facts on binary heaps in lists (no program): exchange, the invariants of sifting up and down. -/
import Derived.Test.YtedcpckocedcoaaGreatRows
namespace Go.Proofs.YtedcpckocedcoaaGreat.HL

variable {α : Type} [Inhabited α]

/-- Element k. -/
def el (l : List α) (k : Nat) : α := l.getD k default

/-- Two elements exchanged. -/
def swp (l : List α) (i j : Nat) : List α := (l.set i (el l j)).set j (el l i)

theorem swp_length (l : List α) (i j : Nat) : (swp l i j).length = l.length := by simp [swp]

theorem el_set (l : List α) (i k : Nat) (x : α) (hi : i < l.length) : el (l.set i x) k = if k = i then x else el l k := by
  unfold el
  rw [List.getD_eq_getElem?_getD, List.getD_eq_getElem?_getD, List.getElem?_set]
  by_cases h : i = k
  · subst h; simp [hi]
  · rw [if_neg h, if_neg (fun e => h e.symm)]

theorem el_swp (l : List α) (i j k : Nat) (hi : i < l.length) (hj : j < l.length) :
    el (swp l i j) k = if k = j then el l i else if k = i then el l j else el l k := by
  unfold swp
  rw [el_set _ _ _ _ (by simpa using hj), el_set _ _ _ _ hi]

theorem el_append_left (l m : List α) (k : Nat) (h : k < l.length) : el (l ++ m) k = el l k := by
  unfold el
  rw [List.getD_eq_getElem?_getD, List.getD_eq_getElem?_getD, List.getElem?_append_left h]

theorem el_mem (l : List α) (k : Nat) (h : k < l.length) : el l k ∈ l := by
  unfold el
  rw [List.getD_eq_getElem?_getD, List.getElem?_eq_getElem h]
  simp

theorem el_eq (l : List α) (k : Nat) (h : k < l.length) : l[k]? = some (el l k) := by
  unfold el
  rw [List.getD_eq_getElem?_getD, List.getElem?_eq_getElem h]
  rfl

theorem ext_el {l m : List α} (hl : l.length = m.length) (h : ∀ k, k < l.length → el l k = el m k) : l = m := by
  refine List.ext_getElem? fun k => ?_
  by_cases hk : k < l.length
  · rw [el_eq l k hk, el_eq m k (by omega), h k hk]
  · rw [List.getElem?_eq_none (by omega), List.getElem?_eq_none (by omega)]

theorem swp_perm (l : List α) (i j : Nat) (hi : i < l.length) (hj : j < l.length) : (swp l i j).Perm l := by
  induction l generalizing i j with
  | nil => simp at hi
  | cons x l ih =>
    cases i with
    | zero =>
      cases j with
      | zero => simp [swp, el]
      | succ j =>
        have hj' : j < l.length := by simpa using hj
        have e : swp (x :: l) 0 (j + 1) = el l j :: l.set j x := by simp [swp, el]
        rw [e]
        have h1 : l = l.take j ++ el l j :: l.drop (j + 1) := by
          conv => lhs; rw [← List.take_append_drop j l, List.drop_eq_getElem_cons hj']
          congr 1
          have := el_eq l j hj'
          rw [List.getElem?_eq_getElem hj'] at this
          simp at this
          rw [this]
        have h2 : l.set j x = l.take j ++ x :: l.drop (j + 1) := by
          rw [List.set_eq_take_append_cons_drop, if_pos hj']
        rw [h2]
        refine List.Perm.trans ?_ (List.Perm.cons x (List.Perm.of_eq h1.symm))
        have p1 : (el l j :: (l.take j ++ x :: l.drop (j + 1))).Perm (el l j :: x :: (l.take j ++ l.drop (j + 1))) := List.Perm.cons _ List.perm_middle
        have p2 : (x :: (l.take j ++ el l j :: l.drop (j + 1))).Perm (x :: el l j :: (l.take j ++ l.drop (j + 1))) := List.Perm.cons _ List.perm_middle
        exact p1.trans ((List.Perm.swap _ _ _).trans p2.symm)
    | succ i =>
      cases j with
      | zero =>
        have hi' : i < l.length := by simpa using hi
        have e : swp (x :: l) (i + 1) 0 = el l i :: l.set i x := by simp [swp, el]
        have e' : swp (x :: l) 0 (i + 1) = el l i :: l.set i x := by simp [swp, el]
        rw [e]
        have h1 : l = l.take i ++ el l i :: l.drop (i + 1) := by
          conv => lhs; rw [← List.take_append_drop i l, List.drop_eq_getElem_cons hi']
          congr 1
          have := el_eq l i hi'
          rw [List.getElem?_eq_getElem hi'] at this
          simp at this
          rw [this]
        have h2 : l.set i x = l.take i ++ x :: l.drop (i + 1) := by
          rw [List.set_eq_take_append_cons_drop, if_pos hi']
        rw [h2]
        refine List.Perm.trans ?_ (List.Perm.cons x (List.Perm.of_eq h1.symm))
        have p1 : (el l i :: (l.take i ++ x :: l.drop (i + 1))).Perm (el l i :: x :: (l.take i ++ l.drop (i + 1))) := List.Perm.cons _ List.perm_middle
        have p2 : (x :: (l.take i ++ el l i :: l.drop (i + 1))).Perm (x :: el l i :: (l.take i ++ l.drop (i + 1))) := List.Perm.cons _ List.perm_middle
        exact p1.trans ((List.Perm.swap _ _ _).trans p2.symm)
      | succ j =>
        have e : swp (x :: l) (i + 1) (j + 1) = x :: swp l i j := by simp [swp, el]
        rw [e]
        exact List.Perm.cons x (ih i j (by simpa using hi) (by simpa using hj))

/-- What an order must be for a heap: 'not less' is transitive, and 'less' is one-sided. -/
structure Ord (lt : α → α → Bool) : Prop where
  asymm : ∀ a b, lt a b = true → lt b a = false
  trans : ∀ a b c, lt b a = false → lt c b = false → lt c a = false

/-- The pair of k and its parent is in order. -/
def okAt (lt : α → α → Bool) (l : List α) (k : Nat) : Prop := lt (el l k) (el l ((k - 1) / 2)) = false

/-- The first n elements are a heap, as far as parents from lo on are concerned. -/
def HeapTo (lt : α → α → Bool) (lo : Nat) (l : List α) (n : Nat) : Prop := ∀ k, 0 < k → k < n → lo ≤ (k - 1) / 2 → okAt lt l k

def IsHeap (lt : α → α → Bool) (l : List α) : Prop := HeapTo lt 0 l l.length

/-- All is in order but for j and its parent. -/
def UpInv (lt : α → α → Bool) (l : List α) (n j : Nat) : Prop :=
  (∀ k, 0 < k → k < n → k ≠ j → okAt lt l k) ∧ (∀ k, 0 < k → k < n → (k - 1) / 2 = j → 0 < j → lt (el l k) (el l ((j - 1) / 2)) = false)

theorem UpInv.done {lt : α → α → Bool} {l : List α} {n j : Nat} (h : UpInv lt l n j) (hj : j = 0 ∨ okAt lt l j) : HeapTo lt 0 l n := by
  intro k h0 hk _
  by_cases e : k = j
  · subst e
    rcases hj with hj | hj
    · omega
    · exact hj
  · exact h.1 k h0 hk e

theorem UpInv.step {lt : α → α → Bool} (O : Ord lt) {l : List α} {n j : Nat} (hn : n ≤ l.length) (hj : j < n) (h0 : 0 < j) (h : UpInv lt l n j)
    (hl : lt (el l j) (el l ((j - 1) / 2)) = true) : UpInv lt (swp l ((j - 1) / 2) j) n ((j - 1) / 2) := by
  have hp : (j - 1) / 2 < l.length := by omega
  have hj' : j < l.length := by omega
  have hpj : (j - 1) / 2 < j := by omega
  obtain ⟨h1, h2⟩ := h
  refine ⟨fun k k0 kn kp => ?_, fun k k0 kn kp p0 => ?_⟩
  · unfold okAt
    rw [el_swp _ _ _ _ hp hj', el_swp _ _ _ _ hp hj']
    by_cases e : k = j
    · subst e
      rw [if_pos rfl, if_neg (by omega), if_pos rfl]
      exact O.asymm _ _ hl
    · rw [if_neg e, if_neg kp]
      by_cases e2 : (k - 1) / 2 = j
      · rw [if_pos e2]
        exact h2 k k0 kn e2 h0
      · rw [if_neg e2]
        by_cases e3 : (k - 1) / 2 = (j - 1) / 2
        · rw [if_pos e3]
          have := h1 k k0 kn e
          unfold okAt at this
          rw [e3] at this
          exact O.trans _ _ _ (O.asymm _ _ hl) this
        · rw [if_neg e3]
          exact h1 k k0 kn e
  · rw [el_swp _ _ _ _ hp hj', el_swp _ _ _ _ hp hj']
    have g := h1 ((j - 1) / 2) (by omega) (by omega) (by omega)
    rw [if_neg (by omega : ¬ ((j - 1) / 2 - 1) / 2 = j), if_neg (by omega : ¬ ((j - 1) / 2 - 1) / 2 = (j - 1) / 2)]
    by_cases e : k = j
    · rw [if_pos e]
      exact g
    · rw [if_neg e, if_neg (by omega)]
      have h3 := h1 k k0 kn e
      unfold okAt at h3
      rw [kp] at h3
      exact O.trans _ _ _ g h3

/-- Sifting down from i0: all is in order but for i and its children (and, as long as i is i0, i0 and its parent). -/
def DownInv (lt : α → α → Bool) (lo i0 : Nat) (l : List α) (n i : Nat) : Prop :=
  (∀ k, 0 < k → k < n → lo ≤ (k - 1) / 2 → (k - 1) / 2 ≠ i → (k ≠ i0 ∨ i0 < i) → okAt lt l k) ∧
  (∀ k, 0 < k → k < n → (k - 1) / 2 = i → 0 < i → lo ≤ (i - 1) / 2 → lt (el l k) (el l ((i - 1) / 2)) = false)

/-- The lesser child of i among the first n. -/
def kid (lt : α → α → Bool) (l : List α) (n i : Nat) : Nat := if 2 * i + 2 < n ∧ lt (el l (2 * i + 2)) (el l (2 * i + 1)) = true then 2 * i + 2 else 2 * i + 1

theorem DownInv.step {lt : α → α → Bool} (O : Ord lt) {lo i0 : Nat} {l : List α} {n i : Nat} (hn : n ≤ l.length) (hi0 : i0 ≤ i) (h : DownInv lt lo i0 l n i) (hc : 2 * i + 1 < n)
    (hl : lt (el l (kid lt l n i)) (el l i) = true) : DownInv lt lo i0 (swp l i (kid lt l n i)) n (kid lt l n i) := by
  obtain ⟨h1, h2⟩ := h
  have hk : (kid lt l n i - 1) / 2 = i ∧ kid lt l n i < n ∧ i < kid lt l n i := by
    unfold kid
    split <;> omega
  have hsib : ∀ k, 0 < k → k < n → (k - 1) / 2 = i → lt (el l k) (el l (kid lt l n i)) = false := by
    intro k k0 kn ki
    have hk2 : k = 2 * i + 1 ∨ k = 2 * i + 2 := by omega
    unfold kid
    split
    · rename_i hs
      rcases hk2 with rfl | rfl
      · exact O.asymm _ _ hs.2
      · cases hx : lt (el l (2 * i + 2)) (el l (2 * i + 2)) with
        | false => rfl
        | true => rw [← hx]; exact O.asymm _ _ hx
    · rename_i hs
      rcases hk2 with rfl | rfl
      · cases hx : lt (el l (2 * i + 1)) (el l (2 * i + 1)) with
        | false => rfl
        | true => rw [← hx]; exact O.asymm _ _ hx
      · cases hx : lt (el l (2 * i + 2)) (el l (2 * i + 1)) with
        | false => rfl
        | true => exact absurd ⟨kn, hx⟩ hs
  generalize kid lt l n i = c at *
  obtain ⟨hc1, hc2, hc3⟩ := hk
  have hcl : c < l.length := by omega
  have hil : i < l.length := by omega
  refine ⟨fun k k0 kn klo kc kor => ?_, fun k k0 kn kc c0 clo => ?_⟩
  · unfold okAt
    rw [el_swp _ _ _ _ hil hcl, el_swp _ _ _ _ hil hcl, if_neg kc]
    by_cases e : k = c
    · subst e
      rw [if_pos rfl, if_pos hc1]
      exact O.asymm _ _ hl
    · rw [if_neg e]
      by_cases e2 : k = i
      · subst e2
        rw [if_pos rfl, if_neg (by omega)]
        exact h2 c (by omega) hc2 hc1 (by omega) klo
      · rw [if_neg e2]
        by_cases e3 : (k - 1) / 2 = i
        · rw [if_pos e3]
          exact hsib k k0 kn e3
        · rw [if_neg e3]
          exact h1 k k0 kn klo e3 (by omega)
  · rw [el_swp _ _ _ _ hil hcl, el_swp _ _ _ _ hil hcl, if_neg (by omega), if_neg (by omega), hc1, if_neg (by omega), if_pos rfl]
    have := h1 k k0 kn (by omega) (by omega) (by omega)
    unfold okAt at this
    rw [kc] at this
    exact this

/-- Where i has no child that is less, all is in order behind i0. -/
theorem DownInv.done {lt : α → α → Bool} (O : Ord lt) {lo i0 : Nat} {l : List α} {n i : Nat} (h : DownInv lt lo i0 l n i)
    (hc : n ≤ 2 * i + 1 ∨ lt (el l (kid lt l n i)) (el l i) = false) : ∀ k, 0 < k → k < n → lo ≤ (k - 1) / 2 → (k ≠ i0 ∨ i0 < i) → okAt lt l k := by
  intro k k0 kn klo kor
  by_cases e : (k - 1) / 2 = i
  · rcases hc with hc | hc
    · omega
    · unfold okAt
      rw [e]
      have hk2 : k = 2 * i + 1 ∨ k = 2 * i + 2 := by omega
      unfold kid at hc
      split at hc
      · rename_i hs
        rcases hk2 with rfl | rfl
        · exact O.trans _ _ _ hc (O.asymm _ _ hs.2)
        · exact hc
      · rename_i hs
        rcases hk2 with rfl | rfl
        · exact hc
        · cases hx : lt (el l (2 * i + 2)) (el l (2 * i + 1)) with
          | true => exact absurd ⟨kn, hx⟩ hs
          | false => exact O.trans _ _ _ hc hx
  · exact h.1 k k0 kn klo e kor

/-- The first one of a heap is least. -/
theorem IsHeap.least {lt : α → α → Bool} (O : Ord lt) {l : List α} (h : IsHeap lt l) : ∀ k, k < l.length → lt (el l k) (el l 0) = false := by
  intro k
  induction k using Nat.strongRecOn with
  | _ k ih =>
    intro hk
    by_cases k0 : k = 0
    · subst k0
      cases hx : lt (el l 0) (el l 0) with
      | false => rfl
      | true => rw [← hx]; exact O.asymm _ _ hx
    · have h1 := h k (by omega) hk (Nat.zero_le _)
      have h2 := ih ((k - 1) / 2) (by omega) (by omega)
      exact O.trans _ _ _ h2 h1

theorem IsHeap.least_mem {lt : α → α → Bool} (O : Ord lt) {l : List α} (h : IsHeap lt l) (x : α) (hx : x ∈ l) : lt x (el l 0) = false := by
  obtain ⟨k, hk, rfl⟩ := List.getElem_of_mem hx
  have := h.least O k hk
  rw [show el l k = l[k] from by have := el_eq l k hk; rw [List.getElem?_eq_getElem hk] at this; simpa using this.symm] at this
  exact this

omit [Inhabited α] in
theorem Ord.irrefl {lt : α → α → Bool} (O : Ord lt) (a : α) : lt a a = false := by
  cases hx : lt a a with
  | false => rfl
  | true => rw [← hx]; exact O.asymm _ _ hx

theorem el_append_right (l : List α) (x : α) : el (l ++ [x]) l.length = x := by
  unfold el
  simp

theorem upInv_push {lt : α → α → Bool} {l : List α} (x : α) (h : IsHeap lt l) : UpInv lt (l ++ [x]) (l.length + 1) l.length := by
  refine ⟨fun k k0 kn ke => ?_, fun k k0 kn kp _ => by omega⟩
  have hk : k < l.length := by omega
  have := h k k0 hk (Nat.zero_le _)
  unfold okAt at this ⊢
  rw [el_append_left _ _ _ hk, el_append_left _ _ _ (by omega)]
  exact this

theorem downInv_pop {lt : α → α → Bool} {l : List α} {n i : Nat} (hl : l.length = n + 1) (hi : i < n) (O : Ord lt) (h : IsHeap lt l) : DownInv lt 0 i (swp l i n) n i := by
  refine ⟨fun k k0 kn _ kp kor => ?_, fun k k0 kn kp i0 _ => ?_⟩
  · have h1 := h k k0 (by omega) (Nat.zero_le _)
    unfold okAt at h1 ⊢
    rw [el_swp _ _ _ _ (by omega) (by omega), el_swp _ _ _ _ (by omega) (by omega), if_neg (by omega), if_neg (by omega), if_neg (by omega), if_neg kp]
    exact h1
  · rw [el_swp _ _ _ _ (by omega) (by omega), el_swp _ _ _ _ (by omega) (by omega), if_neg (by omega), if_neg (by omega), if_neg (by omega), if_neg (by omega)]
    have h1 := h k k0 (by omega) (Nat.zero_le _)
    have h2 := h i i0 (by omega) (Nat.zero_le _)
    unfold okAt at h1 h2
    rw [kp] at h1
    exact O.trans _ _ _ h2 h1

theorem upInv_remove {lt : α → α → Bool} {l : List α} {n i : Nat} (hl : l.length = n + 1) (hi : i < n) (O : Ord lt) (h : IsHeap lt l)
    (hok : ∀ k, 0 < k → k < n → 0 ≤ (k - 1) / 2 → k ≠ i → okAt lt (swp l i n) k) : UpInv lt (swp l i n) n i :=
  ⟨fun k k0 kn ke => hok k k0 kn (Nat.zero_le _) ke, fun k k0 kn kp i0 => (downInv_pop hl hi O h).2 k k0 kn kp i0 (Nat.zero_le _)⟩

theorem split_last {l : List α} {n : Nat} (hl : l.length = n + 1) : l = l.take n ++ [el l n] := by
  refine ext_el (by simp; omega) fun k hk => ?_
  by_cases hkn : k < n
  · rw [el_append_left _ _ _ (by simp; omega)]
    unfold el
    rw [List.getD_eq_getElem?_getD, List.getD_eq_getElem?_getD, List.getElem?_take, if_pos hkn]
  · have : k = n := by omega
    subst this
    have := el_append_right (l.take k) (el l k)
    rw [List.length_take, show min k l.length = k by omega] at this
    exact this.symm

theorem el_take {l : List α} {n k : Nat} (hk : k < n) : el (l.take n) k = el l k := by
  unfold el
  rw [List.getD_eq_getElem?_getD, List.getD_eq_getElem?_getD, List.getElem?_take, if_pos hk]

theorem isHeap_take {lt : α → α → Bool} {l : List α} {n : Nat} (hn : n ≤ l.length) (h : HeapTo lt 0 l n) : IsHeap lt (l.take n) := by
  intro k k0 kn _
  rw [List.length_take, show min n l.length = n by omega] at kn
  have := h k k0 kn (Nat.zero_le _)
  unfold okAt at this ⊢
  rw [el_take kn, el_take (by omega)]
  exact this

theorem downInv_init {lt : α → α → Bool} {l : List α} {n i : Nat} (h : HeapTo lt (i + 1) l n) : DownInv lt i i l n i :=
  ⟨fun k k0 kn kl ki _ => h k k0 kn (by omega), fun k _ _ _ _ _ => by omega⟩

theorem heapTo_of_post {lt : α → α → Bool} {l : List α} {n i : Nat} (h : ∀ k, 0 < k → k < n → i ≤ (k - 1) / 2 → k ≠ i → okAt lt l k) : HeapTo lt i l n :=
  fun k k0 kn kl => h k k0 kn kl (by omega)

theorem heapTo_half {lt : α → α → Bool} (l : List α) (n : Nat) : HeapTo lt (n / 2) l n := fun k _ _ _ => by omega

theorem isHeap_nil {lt : α → α → Bool} : IsHeap lt ([] : List α) := fun k _ hk => by simp at hk

end Go.Proofs.YtedcpckocedcoaaGreat.HL
