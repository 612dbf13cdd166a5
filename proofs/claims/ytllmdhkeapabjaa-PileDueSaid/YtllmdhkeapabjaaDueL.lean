/- Plain facts for PileDue: what is put into the line, and what is left when some was taken. -/
import Derived.Test.YtllmdhkeapabjaaDuesH
namespace Go.Proofs.Ytllmdhkeapabjaa

/-- What the law puts into the line in its first i rounds. -/
def dl (zs : List Int) (i : Nat) : List (Int × Int × Int) := (List.range i).map fun k => (HL.el zs k, (k : Int) + 1, (k : Int))
def isDue (now : Int) (d : Int × Int × Int) : Bool := decide (d.1 ≤ now)
/-- How many of them are due. -/
def dueN (zs : List Int) (now : Int) (i : Nat) : Nat := (dl zs i).countP (isDue now)

theorem dl_succ (zs : List Int) (i : Nat) : dl zs (i + 1) = dl zs i ++ [(HL.el zs i, (i : Int) + 1, (i : Int))] := by
  simp [dl, List.range_succ]
theorem dl_length (zs : List Int) (i : Nat) : (dl zs i).length = i := by simp [dl]
theorem dueN_le (zs : List Int) (now : Int) (i : Nat) : dueN zs now i ≤ i := by
  have := List.countP_le_length (p := isDue now) (l := dl zs i)
  rw [dl_length] at this
  exact this
theorem dueN_succ (zs : List Int) (now : Int) (i : Nat) : dueN zs now (i + 1) = dueN zs now i + if HL.el zs i ≤ now then 1 else 0 := by
  unfold dueN
  rw [dl_succ, List.countP_append]
  simp [List.countP_cons, isDue]
theorem mem_dl {zs : List Int} {n : Nat} {d : Int × Int × Int} (h : d ∈ dl zs n) : ∃ j : Nat, j < n ∧ d = (HL.el zs j, (j : Int) + 1, (j : Int)) := by
  simp only [dl, List.mem_map, List.mem_range] at h
  obtain ⟨j, hj, e⟩ := h
  exact ⟨j, hj, e.symm⟩
theorem dl_nodup (zs : List Int) (n : Nat) : (dl zs n).Nodup := by
  unfold dl
  refine List.Pairwise.map _ ?_ (List.nodup_range (n := n))
  intro a b hab e
  simp only [Prod.mk.injEq] at e
  omega

/-- What holds when k were taken, the last one (at, seq): l is left. -/
def TakeInv (zs : List Int) (n : Nat) (now : Int) (k : Nat) (l : List (Int × Int × Int)) (at_ seq : Int) : Prop :=
  ∃ T, (T ++ l).Perm (dl zs n) ∧ T.length = k ∧ (∀ t ∈ T, t.1 ≤ now) ∧ (0 < k → ∀ y ∈ l, at_ < y.1 ∨ (at_ = y.1 ∧ seq < y.2.1))

theorem TakeInv.start {zs : List Int} {n : Nat} {now : Int} {l : List (Int × Int × Int)} (h : l.Perm (dl zs n)) (a s : Int) : TakeInv zs n now 0 l a s :=
  ⟨[], by simpa using h, rfl, by simp, fun h => by omega⟩

theorem TakeInv.len {zs : List Int} {n k : Nat} {now a s : Int} {l : List (Int × Int × Int)} (h : TakeInv zs n now k l a s) : k + l.length = n := by
  obtain ⟨T, hp, hk, _⟩ := h
  have := hp.length_eq
  rw [List.length_append, dl_length, hk] at this
  exact this

theorem TakeInv.head {zs : List Int} {n k : Nat} {now a s : Int} {l : List (Int × Int × Int)} (h : TakeInv zs n now k l a s) (hn : 0 < l.length) : ∃ j : Nat, j < n ∧ HL.el l 0 = (HL.el zs j, (j : Int) + 1, (j : Int)) := by
  obtain ⟨T, hp, _⟩ := h
  exact mem_dl (hp.subset (List.mem_append_right _ (HL.el_mem l 0 hn)))

theorem TakeInv.later {zs : List Int} {n k : Nat} {now a s : Int} {l : List (Int × Int × Int)} (h : TakeInv zs n now k l a s) (hn : 0 < l.length) (hk : 0 < k) : a < (HL.el l 0).1 ∨ (a = (HL.el l 0).1 ∧ s < (HL.el l 0).2.1) := by
  obtain ⟨T, _, _, _, hl⟩ := h
  exact hl hk _ (HL.el_mem l 0 hn)

theorem TakeInv.step {zs : List Int} {n k : Nat} {now a s : Int} {l l' : List (Int × Int × Int)} (h : TakeInv zs n now k l a s) (hh : HL.IsHeap dlt l) (hp : (HL.el l 0 :: l').Perm l) (hd : (HL.el l 0).1 ≤ now) :
    TakeInv zs n now (k + 1) l' (HL.el l 0).1 (HL.el l 0).2.1 := by
  obtain ⟨T, hT, hk, hTn, _⟩ := h
  have hp1 : ((T ++ [HL.el l 0]) ++ l').Perm (dl zs n) := by
    rw [List.append_assoc]
    exact (hp.append_left T).trans hT
  refine ⟨T ++ [HL.el l 0], hp1, by simp [hk], ?_, fun _ y hy => ?_⟩
  · intro t ht
    rcases List.mem_append.1 ht with h | h
    · exact hTn t h
    · rw [List.mem_singleton.1 h]; exact hd
  · have hyl : y ∈ l := hp.subset (List.mem_cons_of_mem _ hy)
    have hle := hh.least_mem dlt_ord y hyl
    rw [dlt_false] at hle
    have hnd : ((T ++ [HL.el l 0]) ++ l').Nodup := hp1.nodup_iff.2 (dl_nodup zs n)
    have hne : y ≠ HL.el l 0 := by
      rw [List.append_assoc] at hnd
      have h2 := (List.nodup_append.1 hnd).2.1
      have h3 := (List.nodup_cons.1 h2).1
      rintro rfl
      exact h3 hy
    obtain ⟨j, _, ej⟩ := mem_dl (hp1.subset (List.mem_append_right _ hy))
    obtain ⟨i, _, ei⟩ := mem_dl (hp1.subset (List.mem_append_left l' (List.mem_append_right T (List.mem_singleton.2 rfl))))
    rw [ej, ei] at hle ⊢
    rw [ej, ei] at hne
    simp only [] at hle ⊢
    have hij : i ≠ j := fun e => hne (by rw [e])
    omega

theorem TakeInv.fin {zs : List Int} {n k : Nat} {now a s : Int} {l : List (Int × Int × Int)} (h : TakeInv zs n now k l a s) (hh : HL.IsHeap dlt l) (hl : l.length = 0 ∨ now < (HL.el l 0).1) : k = dueN zs now n ∧ l.length = n - dueN zs now n := by
  have hlen := h.len
  obtain ⟨T, hT, hk, hTn, _⟩ := h
  have hno : l.countP (isDue now) = 0 := by
    rw [List.countP_eq_zero]
    intro y hy
    rcases hl with h0 | h0
    · rw [List.length_eq_zero_iff] at h0
      subst h0
      simp at hy
    · have hle := hh.least_mem dlt_ord y hy
      rw [dlt_false] at hle
      simp only [isDue, decide_eq_true_eq]
      omega
  have hall : T.countP (isDue now) = k := by
    rw [← hk, List.countP_eq_length]
    intro t ht
    simp only [isDue, decide_eq_true_eq]
    exact hTn t ht
  have : dueN zs now n = k := by
    unfold dueN
    rw [← hT.countP_eq, List.countP_append, hno, hall, Nat.add_zero]
  omega
end Go.Proofs.Ytllmdhkeapabjaa
