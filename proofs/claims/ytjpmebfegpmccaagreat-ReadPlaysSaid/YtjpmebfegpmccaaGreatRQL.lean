/- Chapter 21's reference: where a read is put in; what sorted lists of reads are. Plain facts. -/
import Derived.Test.YtjpmebfegpmccaaGreatTake
namespace Go.Proofs.YtjpmebfegpmccaaGreat

/-- A read y stands ahead of x that comes later. -/
def keyLe (x y : Rd) : Bool := decide (y.2.2 < x.2.2 ∨ (y.2.2 = x.2.2 ∧ y.2.1 ≤ x.2.1))
def insD (L : List Rd) (x : Rd) : List Rd := L.takeWhile (keyLe x) ++ x :: L.dropWhile (keyLe x)
def insW (S : List Wt) (x : Wt) : List Wt := S.takeWhile (fun y => keyLe (rdOf x) (rdOf y)) ++ x :: S.dropWhile (fun y => keyLe (rdOf x) (rdOf y))

theorem take_while_at {α : Type} [Inhabited α] (f : α → Bool) : ∀ (L : List α) (k : Nat), k ≤ L.length → (∀ i, i < k → f (HL.el L i) = true) → (k < L.length → f (HL.el L k) = false) → L.takeWhile f = L.take k ∧ L.dropWhile f = L.drop k
  | [], k, hk, _, _ => by simp
  | x :: L, 0, _, _, h => by
    have h0 : f x = false := h (by simp)
    simp [h0]
  | x :: L, k + 1, hk, h1, h2 => by
    have h0 : f x = true := h1 0 (by omega)
    have ih := take_while_at f L k (by simpa using hk) (fun i hi => h1 (i + 1) (by omega)) (fun hl => h2 (by simpa using hl))
    simp [h0, ih.1, ih.2]

theorem insD_at {L : List Rd} {x : Rd} {k : Nat} (hk : k ≤ L.length) (h1 : ∀ i, i < k → keyLe x (HL.el L i) = true) (h2 : k < L.length → keyLe x (HL.el L k) = false) : insD L x = L.take k ++ [x] ++ L.drop k := by
  obtain ⟨e1, e2⟩ := take_while_at (keyLe x) L k hk h1 h2
  unfold insD
  rw [e1, e2]
  simp
theorem insD_length (L : List Rd) (x : Rd) : (insD L x).length = L.length + 1 := by
  unfold insD
  have := congrArg List.length (List.takeWhile_append_dropWhile (p := keyLe x) (l := L))
  rw [List.length_append] at this
  rw [List.length_append, List.length_cons]
  omega
theorem map_insW (S : List Wt) (x : Wt) : (insW S x).map rdOf = insD (S.map rdOf) (rdOf x) := by
  unfold insW insD
  rw [List.map_append, List.map_cons, List.takeWhile_map, List.dropWhile_map]
  rfl
theorem insW_perm (S : List Wt) (x : Wt) : (insW S x).Perm (S ++ [x]) := by
  unfold insW
  refine List.perm_middle.trans ?_
  rw [List.takeWhile_append_dropWhile]
  exact (List.perm_append_singleton x S).symm

/-- What the queue holds, in its order: each read bears a number of its own, up to c. -/
structure QS (S : List Wt) (c : Int) : Prop where
  sorted : S.Pairwise fun a b => wlt b a = false
  le : ∀ a ∈ S, a.2.2.2 ≤ c
  one : ∀ a ∈ S, ∀ b ∈ S, a.2.2.2 = b.2.2.2 → a = b

theorem QS.nil : QS [] 0 := ⟨List.Pairwise.nil, by simp, by simp⟩
theorem QS.mono {S : List Wt} {c d : Int} (h : QS S c) (hd : c ≤ d) : QS S d := ⟨h.sorted, fun a ha => Int.le_trans (h.le a ha) hd, h.one⟩
theorem QS.filter {S : List Wt} {c : Int} (h : QS S c) (f : Wt → Bool) : QS (S.filter f) c :=
  ⟨h.sorted.sublist List.filter_sublist, fun a ha => h.le a (List.mem_filter.1 ha).1, fun a ha b hb => h.one a (List.mem_filter.1 ha).1 b (List.mem_filter.1 hb).1⟩
/-- Another list of the same reads that is sorted is the same list. -/
theorem QS.uniq {S U : List Wt} {c : Int} (h : QS S c) (hU : U.Pairwise fun a b => wlt b a = false) (hp : U.Perm S) : U = S := by
  refine List.Perm.eq_of_pairwise (le := fun a b => wlt b a = false) ?_ hU h.sorted hp
  intro a b ha hb h3 h4
  rw [wlt_false] at h3 h4
  exact h.one a (hp.subset ha) b hb (by omega)
theorem QS.ins {S : List Wt} {c : Int} {x : Wt} (h : QS S c) (hx : x.2.2.2 = c + 1) : QS (insW S x) (c + 1) := by
  have hm : ∀ a, a ∈ insW S x ↔ a ∈ S ∨ a = x := fun a => by rw [(insW_perm S x).mem_iff]; simp
  refine ⟨?_, fun a ha => ?_, fun a ha b hb e => ?_⟩
  · unfold insW
    have hs := h.sorted
    have ht : ∀ a ∈ S.takeWhile (fun y => keyLe (rdOf x) (rdOf y)), keyLe (rdOf x) (rdOf a) = true := fun a ha => by
      have := List.all_eq_true.1 (List.all_takeWhile (p := fun y => keyLe (rdOf x) (rdOf y)) (l := S)) a ha
      exact this
    have hd : ∀ b ∈ S.dropWhile (fun y => keyLe (rdOf x) (rdOf y)), keyLe (rdOf x) (rdOf b) = false := by
      intro b hb
      have hsd : (S.dropWhile (fun y => keyLe (rdOf x) (rdOf y))).Pairwise fun a b => wlt b a = false := hs.sublist (List.dropWhile_sublist _)
      cases hc : S.dropWhile (fun y => keyLe (rdOf x) (rdOf y)) with
      | nil => rw [hc] at hb; cases hb
      | cons d D =>
        have h0 : keyLe (rdOf x) (rdOf d) = false := by
          have := List.head?_dropWhile_not (fun y => keyLe (rdOf x) (rdOf y)) S
          rw [hc] at this
          simpa using this
        rw [hc] at hb hsd
        rcases List.mem_cons.1 hb with rfl | hb
        · exact h0
        · have h1 := (List.pairwise_cons.1 hsd).1 b hb
          rw [wlt_false] at h1
          unfold keyLe at h0 ⊢
          rw [decide_eq_false_iff_not] at h0 ⊢
          simp only [rdOf] at h0 ⊢
          omega
    refine List.pairwise_append.2 ⟨hs.sublist (List.takeWhile_sublist _), List.pairwise_cons.2 ⟨fun b hb => ?_, hs.sublist (List.dropWhile_sublist _)⟩, fun a ha b hb => ?_⟩
    · have h1 := hd b hb
      have h2 := h.le b ((List.dropWhile_sublist _).subset hb)
      unfold keyLe at h1
      rw [decide_eq_false_iff_not] at h1
      simp only [rdOf] at h1
      rw [wlt_false]
      omega
    · have h1 := ht a ha
      have h2 := h.le a ((List.takeWhile_sublist _).subset ha)
      unfold keyLe at h1
      rw [decide_eq_true_eq] at h1
      simp only [rdOf] at h1
      rcases List.mem_cons.1 hb with rfl | hb
      · rw [wlt_false]
        omega
      · have h3 := hd b hb
        unfold keyLe at h3
        rw [decide_eq_false_iff_not] at h3
        simp only [rdOf] at h3
        rw [wlt_false]
        omega
  · rcases (hm a).1 ha with h1 | h1
    · have := h.le a h1; omega
    · rw [h1]; omega
  · rcases (hm a).1 ha with h1 | h1
    · rcases (hm b).1 hb with h2 | h2
      · exact h.one a h1 b h2 e
      · have := h.le a h1
        rw [h2] at e
        omega
    · rcases (hm b).1 hb with h2 | h2
      · have := h.le b h2
        rw [h1] at e
        omega
      · rw [h1, h2]
end Go.Proofs.YtjpmebfegpmccaaGreat
