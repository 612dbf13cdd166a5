/- Chapter 30, the plain law: the search by masks. No program in sight. -/
import Derived.Test.YtaijjmhannhkcaaHistS
namespace Go.Proofs.Ytaijjmhannhkcaa

theorem Ord.congr {E : Nat → Ev} {I U U' : Nat → Prop} {s : HSt} (h : Ord E I U s) (hU : ∀ i, I i → (U' i ↔ U i)) : Ord E I U' s :=
  h.sim (fun i => i) (fun _ h => h) (fun j hj => ⟨j, hj, rfl⟩) (fun _ _ _ _ e => e) (fun _ _ => rfl) U' hU

/-- From the mask of what is done, and a state, on. -/
def goM (L : List Ev) (used : Nat) (s : HSt) : Prop := Ord (fun b => L.getD b default) (fun b => b < L.length) (fun b => used.testBit b = true) s
/-- The mask of those that say what happened. -/
def NeedM (L : List Ev) (need : Nat) : Prop := ∀ b, need.testBit b = true ↔ b < L.length ∧ (L.getD b default).sure = true
/-- May number i come next? -/
def mayM (L : List Ev) (need used i : Nat) : Prop := ∀ j, need.testBit j = true → used.testBit j = false → j ≠ i → ¬ (L.getD j default).to < (L.getD i default).frm
def nextM (used i : Nat) : Nat := used ||| (1 <<< i)
theorem nextM_bit (used i j : Nat) : (nextM used i).testBit j = true ↔ used.testBit j = true ∨ j = i := by
  unfold nextM
  rw [Nat.testBit_or, Nat.testBit_shiftLeft, Bool.or_eq_true, Bool.and_eq_true, decide_eq_true_eq]
  constructor
  · rintro (h | ⟨h1, h2⟩)
    · exact .inl h
    · right
      have h3 : j - i = 0 := by
        rcases Nat.eq_zero_or_pos (j - i) with h | h
        · exact h
        · have := Nat.testBit_one_eq_true_iff_self_eq_zero.1 h2
          exact this
      omega
  · rintro (h | rfl)
    · exact .inl h
    · exact .inr ⟨Nat.le_refl _, by simp⟩

theorem goM_fin {L : List Ev} {need used : Nat} {s : HSt} (hn : NeedM L need) (h : ∀ j, need.testBit j = true → used.testBit j = true) : goM L used s :=
  .fin (fun b hb hs => h b ((hn b).2 ⟨hb, hs⟩))
theorem goM_step {L : List Ev} {need used i : Nat} {s : HSt} (hn : NeedM L need) (hi : i < L.length) (hu : used.testBit i = false) (hm : mayM L need used i) (hr : (L.getD i default).sure = true → (doE s (L.getD i default)).2 = ((L.getD i default).err, (L.getD i default).rval))
    (h : goM L (nextM used i) (doE s (L.getD i default)).1) : goM L used s := by
  refine .step i hi (by rw [hu]; decide) (fun j hj hs hU hji => hm j ((hn j).2 ⟨hj, hs⟩) (by simpa using hU) hji) hr ?_
  exact h.congr (fun j _ => (nextM_bit used i j).symm)
theorem goM_cases {L : List Ev} {need used : Nat} {s : HSt} (hn : NeedM L need) (h : goM L used s) : (∀ j, need.testBit j = true → used.testBit j = true) ∨
    ∃ i, i < L.length ∧ used.testBit i = false ∧ mayM L need used i ∧ ((L.getD i default).sure = true → (doE s (L.getD i default)).2 = ((L.getD i default).err, (L.getD i default).rval)) ∧ goM L (nextM used i) (doE s (L.getD i default)).1 := by
  rcases ord_cases h with h1 | ⟨i, hi, hU, hm, hr, h2⟩
  · exact .inl (fun j hj => h1 j ((hn j).1 hj).1 ((hn j).1 hj).2)
  · refine .inr ⟨i, hi, by simpa using hU, fun j hj hu hji => hm j ((hn j).1 hj).1 ((hn j).1 hj).2 (by rw [hu]; decide) hji, hr, h2.congr (fun j _ => nextM_bit used i j)⟩

theorem nextM_lt {used i : Nat} (hu : used.testBit i = false) : used < nextM used i := by
  have hle : used ≤ nextM used i := Nat.left_le_or
  rcases Nat.lt_or_ge used (nextM used i) with h | h
  · exact h
  · have e : nextM used i = used := Nat.le_antisymm h hle
    have := (nextM_bit used i i).2 (.inr rfl)
    rw [e, hu] at this
    cases this
theorem nextM_bound {used i n : Nat} (hu : used < 2 ^ n) (hi : i < n) : nextM used i < 2 ^ n := by
  unfold nextM
  refine Nat.or_lt_two_pow hu ?_
  rw [Nat.one_shiftLeft]
  exact Nat.pow_lt_pow_right (by omega) hi

/-- What the search has seen: no order behind it, or it is on its way there. -/
def Seen (L : List Ev) (used : Nat) (S : Nat × HSt → Prop) : Prop := ∀ k, S k → ¬ goM L k.1 k.2 ∨ k.1 < used
theorem Seen.not {L : List Ev} {used : Nat} {s : HSt} {S : Nat × HSt → Prop} (h : Seen L used S) (hs : S (used, s)) : ¬ goM L used s := by
  rcases h _ hs with h1 | h1
  · exact h1
  · exact absurd h1 (Nat.lt_irrefl _)
end Go.Proofs.Ytaijjmhannhkcaa
