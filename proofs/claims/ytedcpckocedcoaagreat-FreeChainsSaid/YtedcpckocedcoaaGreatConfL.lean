/- Plain facts on sorted lists of numbers, each once: no program in sight. -/
import Derived.Lib.SlicesCompact
namespace Go.Proofs.YtedcpckocedcoaaGreat
namespace CL

/-- Sorted, each once. -/
def Up (l : List Int) : Prop := l.Pairwise (· < ·)

theorem up_nodup {l : List Int} (h : Up l) : l.Nodup := h.imp (fun h => by omega)

theorem up_ext : ∀ {a b : List Int}, Up a → Up b → (∀ x, x ∈ a ↔ x ∈ b) → a = b
  | [], [], _, _, _ => rfl
  | [], y :: b, _, _, h => by have := (h y).2 (by simp); simp at this
  | x :: a, [], _, _, h => by have := (h x).1 (by simp); simp at this
  | x :: a, y :: b, ha, hb, h => by
    have ha' := List.pairwise_cons.1 ha
    have hb' := List.pairwise_cons.1 hb
    have hxy : x = y := by
      rcases List.mem_cons.1 ((h x).1 (by simp)) with e | e
      · exact e
      · rcases List.mem_cons.1 ((h y).2 (by simp)) with e' | e'
        · exact e'.symm
        · have h1 := hb'.1 x e
          have h2 := ha'.1 y e'
          omega
    subst hxy
    congr 1
    refine up_ext ha'.2 hb'.2 (fun z => ?_)
    have hz := h z
    constructor
    · intro hm
      have h1 := ha'.1 z hm
      rcases List.mem_cons.1 (hz.1 (by simp [hm])) with e | e
      · omega
      · exact e
    · intro hm
      have h1 := hb'.1 z hm
      rcases List.mem_cons.1 (hz.2 (by simp [hm])) with e | e
      · omega
      · exact e

/-- What slices.Compact makes of a sorted row. -/
theorem compact_up (d : Array Int) (hs : ∀ i j, i ≤ j → j < d.size → d[i]! ≤ d[j]!) : ∀ m, m ≤ d.size →
    Up (Lib.compactUpTo d m) ∧ (∀ x, x ∈ Lib.compactUpTo d m ↔ ∃ j, j < m ∧ d[j]! = x) ∧ (Lib.compactUpTo d m).length ≤ m
  | 0, _ => ⟨by simp [Lib.compactUpTo, Up], by simp [Lib.compactUpTo], by simp [Lib.compactUpTo]⟩
  | m + 1, hm => by
    obtain ⟨h1, h2, h3⟩ := compact_up d hs m (by omega)
    rw [Lib.compactUpTo_succ]
    by_cases hk : Lib.keeps d m = true
    · rw [if_pos hk]
      refine ⟨?_, ?_, by simp; omega⟩
      · unfold Up
        rw [List.pairwise_append]
        refine ⟨h1, by simp, ?_⟩
        intro a ha b hb
        have hb' : b = d[m]! := by simpa using hb
        subst hb'
        obtain ⟨j, hj, rfl⟩ := (h2 a).1 ha
        have hk' : m = 0 ∨ d[m]! ≠ d[m - 1]! := by simpa [Lib.keeps] using hk
        rcases hk' with h0 | hne
        · omega
        · have e1 := hs j (m - 1) (by omega) (by omega)
          have e2 := hs (m - 1) m (by omega) (by omega)
          omega
      · intro x
        rw [List.mem_append, h2]
        constructor
        · rintro (⟨j, hj, e⟩ | e)
          · exact ⟨j, by omega, e⟩
          · exact ⟨m, by omega, (List.mem_singleton.1 e).symm⟩
        · rintro ⟨j, hj, e⟩
          rcases Nat.lt_or_ge j m with g | g
          · exact .inl ⟨j, g, e⟩
          · obtain rfl : j = m := by omega
            exact .inr (by simp [e])
    · rw [if_neg hk, List.append_nil]
      refine ⟨h1, ?_, by omega⟩
      intro x
      rw [h2]
      have hk' : ¬ (m = 0 ∨ d[m]! ≠ d[m - 1]!) := by simpa [Lib.keeps] using hk
      have hm0 : m ≠ 0 := fun e => hk' (.inl e)
      have hme : d[m]! = d[m - 1]! := Classical.byContradiction fun e => hk' (.inr e)
      constructor
      · rintro ⟨j, hj, e⟩
        exact ⟨j, by omega, e⟩
      · rintro ⟨j, hj, e⟩
        rcases Nat.lt_or_ge j m with g | g
        · exact ⟨j, g, e⟩
        · obtain rfl : j = m := by omega
          exact ⟨j - 1, by omega, by rw [← hme, e]⟩

/-- The sort of numbers. -/
def srt (zs : List Int) : List Int := zs.mergeSort fun x y => decide (x ≤ y)

theorem srt_perm (zs : List Int) : (srt zs).Perm zs := List.mergeSort_perm _ _
theorem srt_length (zs : List Int) : (srt zs).length = zs.length := (srt_perm zs).length_eq
theorem srt_mem {zs : List Int} {x : Int} : x ∈ srt zs ↔ x ∈ zs := (srt_perm zs).mem_iff
theorem srt_sorted (zs : List Int) : (srt zs).Pairwise (· ≤ ·) := by
  have := List.pairwise_mergeSort (le := fun x y : Int => decide (x ≤ y)) (by intro a b c; simp; omega) (by intro a b; simp; omega) zs
  exact this.imp (fun h => by simpa using h)

theorem srt_unique {a b : List Int} (hp : a.Perm b) (ha : a.Pairwise (· ≤ ·)) (hb : b.Pairwise (· ≤ ·)) : a = b :=
  hp.eq_of_pairwise (fun x y _ _ h1 h2 => by omega) ha hb

theorem srt_of_perm {a b : List Int} (hp : a.Perm b) : srt a = srt b :=
  srt_unique ((srt_perm a).trans (hp.trans (srt_perm b).symm)) (srt_sorted a) (srt_sorted b)

/-- Each number once, rising. -/
def nrm (zs : List Int) : List Int := Lib.compact (srt zs)

theorem nrm_all (zs : List Int) : Up (nrm zs) ∧ (∀ x, x ∈ nrm zs ↔ x ∈ zs) ∧ (nrm zs).length ≤ zs.length := by
  have hs : ∀ i j, i ≤ j → j < (srt zs).toArray.size → (srt zs).toArray[i]! ≤ (srt zs).toArray[j]! := by
    intro i j hij hj
    have hj' : j < (srt zs).length := by simpa using hj
    have e1 : (srt zs).toArray[i]! = (srt zs)[i]'(by omega) := by rw [getElem!_pos (srt zs).toArray i (by simp; omega)]; simp
    have e2 : (srt zs).toArray[j]! = (srt zs)[j]'hj' := by rw [getElem!_pos (srt zs).toArray j hj]; simp
    rw [e1, e2]
    rcases Nat.lt_or_ge i j with g | g
    · exact List.pairwise_iff_getElem.1 (srt_sorted zs) i j (by omega) hj' g
    · obtain rfl : i = j := by omega
      exact Int.le_refl _
  obtain ⟨h1, h2, h3⟩ := compact_up (srt zs).toArray hs (srt zs).length (by simp)
  refine ⟨h1, fun x => ?_, by have := srt_length zs; unfold nrm Lib.compact; omega⟩
  unfold nrm Lib.compact
  rw [h2, ← srt_mem (zs := zs), List.mem_iff_getElem]
  constructor
  · rintro ⟨j, hj, e⟩
    refine ⟨j, hj, ?_⟩
    rw [getElem!_pos (srt zs).toArray j (by simpa using hj)] at e
    simpa using e
  · rintro ⟨j, hj, e⟩
    refine ⟨j, hj, ?_⟩
    rw [getElem!_pos (srt zs).toArray j (by simpa using hj)]
    simpa using e

theorem nrm_up (zs : List Int) : Up (nrm zs) := (nrm_all zs).1
theorem nrm_mem {zs : List Int} {x : Int} : x ∈ nrm zs ↔ x ∈ zs := (nrm_all zs).2.1 x
theorem nrm_length (zs : List Int) : (nrm zs).length ≤ zs.length := (nrm_all zs).2.2
theorem nrm_of_up {zs : List Int} (h : Up zs) : nrm zs = zs := up_ext (nrm_up zs) h (fun _ => nrm_mem)
theorem nrm_ext {a b : List Int} (h : ∀ x, x ∈ a ↔ x ∈ b) : nrm a = nrm b := up_ext (nrm_up a) (nrm_up b) (fun x => by rw [nrm_mem, nrm_mem, h])
theorem nrm_pos {zs : List Int} (h : 0 < zs.length) : 0 < (nrm zs).length := by
  obtain ⟨x, hx⟩ := List.exists_mem_of_length_pos h
  exact List.length_pos_of_mem (nrm_mem.2 hx)

/-- How many are enough. -/
def quo (n : Nat) : Nat := if n < 1 then 0 else n / 2 + 1
/-- How many of the one list are in the other. -/
def cnt (a v : List Int) : Nat := (a.filter (fun x => decide (x ∈ v))).length
def won (m v : List Int) : Bool := decide (0 < cnt (nrm m) v) && decide (quo (nrm m).length ≤ cnt (nrm m) v)

theorem cnt_le (a v : List Int) : cnt a v ≤ a.length := List.length_filter_le _ _
theorem cnt_mono {a v v' : List Int} (h : ∀ x, x ∈ v → x ∈ v') : cnt a v ≤ cnt a v' := by
  unfold cnt
  induction a with
  | nil => simp
  | cons x a ih =>
    by_cases h1 : x ∈ v
    · have := h x h1
      simp [h1, this]; omega
    · by_cases h2 : x ∈ v'
      · simp [h1, h2]; omega
      · simp [h1, h2]; omega
theorem cnt_self (a : List Int) : cnt a a = a.length := by
  unfold cnt
  rw [List.filter_eq_self.2 (fun x hx => by simpa using hx)]
theorem cnt_nil (a : List Int) : cnt a [] = 0 := by simp [cnt]
theorem cnt_two {a u v : List Int} (h : ∀ x, x ∈ a → x ∈ u → x ∈ v → False) : cnt a u + cnt a v ≤ a.length := by
  unfold cnt
  induction a with
  | nil => simp
  | cons x a ih =>
    have ih' := ih (fun y hy => h y (by simp [hy]))
    have hx := h x (by simp)
    by_cases h1 : x ∈ u
    · have h2 : x ∉ v := fun e => hx h1 e
      simp [h1, h2]; omega
    · by_cases h2 : x ∈ v
      · simp [h1, h2]; omega
      · simp [h1, h2]; omega
end CL
end Go.Proofs.YtedcpckocedcoaaGreat
