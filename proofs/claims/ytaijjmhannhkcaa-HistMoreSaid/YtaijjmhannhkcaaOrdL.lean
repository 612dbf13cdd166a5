/- hist's order, the plain part: how many calls there can be. No program in sight. -/
import Derived.Test.YtaijjmhannhkcaaHistM
import Derived.Tactics
namespace Go.Proofs.Ytaijjmhannhkcaa

/-- How many of the first n are not done. -/
def cntU : Nat → Nat → Nat
  | 0, _ => 0
  | n + 1, u => cntU n u + (if u.testBit n = true then 0 else 1)
theorem cntU_le : ∀ n u, cntU n u ≤ n
  | 0, _ => Nat.le_refl _
  | n + 1, u => by
    have := cntU_le n u
    unfold cntU
    split <;> omega
theorem cntU_same : ∀ n u i, n ≤ i → cntU n (nextM u i) = cntU n u
  | 0, _, _, _ => rfl
  | n + 1, u, i, h => by
    unfold cntU
    rw [cntU_same n u i (by omega)]
    have e : ((nextM u i).testBit n = true) ↔ (u.testBit n = true) := by
      rw [nextM_bit]
      constructor
      · rintro (h1 | h1)
        · exact h1
        · omega
      · exact .inl
    by_cases h1 : u.testBit n = true
    · rw [if_pos h1, if_pos (e.2 h1)]
    · rw [if_neg h1, if_neg (fun h2 => h1 (e.1 h2))]
theorem cntU_next : ∀ n u i, i < n → u.testBit i = false → cntU n (nextM u i) + 1 = cntU n u
  | 0, _, _, h, _ => absurd h (Nat.not_lt_zero _)
  | n + 1, u, i, h, hu => by
    unfold cntU
    by_cases hin : i = n
    · subst hin
      rw [cntU_same i u i (Nat.le_refl _), if_pos ((nextM_bit u i i).2 (.inr rfl)), if_neg (by rw [hu]; decide)]
    · have ih := cntU_next n u i (by omega) hu
      have e : ((nextM u i).testBit n = true) ↔ (u.testBit n = true) := by
        rw [nextM_bit]
        constructor
        · rintro (h1 | h1)
          · exact h1
          · omega
        · exact .inl
      by_cases h1 : u.testBit n = true
      · rw [if_pos h1, if_pos (e.2 h1)]
        omega
      · rw [if_neg h1, if_neg (fun h2 => h1 (e.1 h2))]
        omega

/-- How many calls there can be behind k that are not done. -/
def callsT : Nat → Nat
  | 0 => 1
  | k + 1 => 1 + (k + 1) * callsT k
theorem callsT_mono : ∀ k, callsT k ≤ callsT (k + 1)
  | 0 => by decide
  | k + 1 => by
    have h1 : callsT (k + 1 + 1) = 1 + (k + 1 + 1) * callsT (k + 1) := rfl
    have h2 : callsT (k + 1) ≤ (k + 1 + 1) * callsT (k + 1) := Nat.le_mul_of_pos_left _ (by omega)
    omega
theorem callsT_le {j k : Nat} (h : j ≤ k) : callsT j ≤ callsT k := by
  induction h with
  | refl => exact Nat.le_refl _
  | step _ ih => exact Nat.le_trans ih (callsT_mono _)
theorem callsT_pred (k : Nat) : 1 + k * callsT (k - 1) ≤ callsT k := by
  cases k with
  | zero => exact Nat.le_refl _
  | succ k => exact Nat.le_refl _
theorem cntU_mono {i j : Nat} (h : i ≤ j) (u : Nat) : cntU i u ≤ cntU j u := by
  induction h with
  | refl => exact Nat.le_refl _
  | step _ ih => exact Nat.le_trans ih (Nat.le_add_right _ _)
theorem callsT_16 {k : Nat} (h : k ≤ 16) : callsT k < 1000000000000000 := Nat.lt_of_le_of_lt (callsT_le h) (by decide)

theorem doE_size {s : HSt} {e : Ev} {m : Nat} (hs : s.2.size ≤ m) (he : e.val.size ≤ m) : (doE s e).1.2.size ≤ m := by
  unfold doE
  split
  · exact he
  · split
    · exact hs
    · split
      · exact hs
      · split
        · exact Nat.zero_le _
        · split
          · exact hs
          · exact he

/-- Number i leads on. -/
def leadsM (L : List Ev) (need used : Nat) (s : HSt) (i : Nat) : Prop :=
  used.testBit i = false ∧ mayM L need used i ∧ ((L.getD i default).sure = true → (doE s (L.getD i default)).2 = ((L.getD i default).err, (L.getD i default).rval)) ∧ goM L (nextM used i) (doE s (L.getD i default)).1
theorem goM_none {L : List Ev} {need used : Nat} {s : HSt} (hn : NeedM L need) (hz : ¬ ∀ j, need.testBit j = true → used.testBit j = true) (h : ∀ i, i < L.length → ¬ leadsM L need used s i) : ¬ goM L used s := by
  intro hg
  rcases goM_cases hn hg with h1 | ⟨i, hi, h2, h3, h4, h5⟩
  · exact hz h1
  · exact h i hi ⟨h2, h3, h4, h5⟩
theorem goM_lead {L : List Ev} {need used i : Nat} {s : HSt} (hn : NeedM L need) (hi : i < L.length) (h : leadsM L need used s i) : goM L used s := goM_step hn hi h.1 h.2.1 h.2.2.1 h.2.2.2
end Go.Proofs.Ytaijjmhannhkcaa
