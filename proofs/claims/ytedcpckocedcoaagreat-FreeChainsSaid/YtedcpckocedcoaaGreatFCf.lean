/- FreeChains: what the four calls answer, in one form each. -/
import Derived.Test.YtedcpckocedcoaaGreatFCt
import Derived.Test.YtedcpckocedcoaaGreatQ2A
namespace Go.Proofs.YtedcpckocedcoaaGreat
open Go.RowKit

open Classical in
/-- What Chain writes; its errno; what Unchain reads; its errno. -/
noncomputable def cL (zs : List Int) : List ByteArray := if ∀ i, i < zs.length → ok32 (HL.el zs i) then chainOf zs else []
open Classical in
noncomputable def cE (zs : List Int) : Int := if ∀ i, i < zs.length → ok32 (HL.el zs i) then 0 else 1
open Classical in
noncomputable def uL (bs : List ByteArray) : List Int := if ∀ i, i < bs.length → (HL.el bs i).size % 4 = 0 then unAll bs else []
open Classical in
noncomputable def uE (bs : List ByteArray) : Int := if ∀ i, i < bs.length → (HL.el bs i).size % 4 = 0 then 0 else 4

theorem ChR.form {base : Nat} {zs : List Int} {e : Ending} {w' : World} (h : ChR base zs e w') : ∃ q d, e = .returned (.tuple #[.slice q (cL zs).length d, .int .i64 (cE zs)]) ∧ w'.ownsRow base 9 1 (.slice q (cL zs).length d) (cL zs).length (rowOf bcells (cL zs)) := by
  rcases h with ⟨hg, v, rfl, ho⟩ | ⟨hg, rfl⟩
  · have e1 : cL zs = chainOf zs := if_pos hg
    have e2 : cE zs = 0 := if_pos hg
    rw [e1, e2, rowOf_mapT]
    obtain ⟨q, d, rfl⟩ := owns_slice ho
    exact ⟨q, d, rfl, ho⟩
  · have e1 : cL zs = [] := if_neg hg
    have e2 : cE zs = 1 := if_neg hg
    rw [e1, e2]
    exact ⟨none, 0, rfl, World.ownsRow_nil _ _ _ _⟩
theorem UnR.form {base : Nat} {bs : List ByteArray} {e : Ending} {w' : World} (h : UnR base bs e w') : ∃ q d, e = .returned (.tuple #[.slice q (uL bs).length d, .int .i64 (uE bs)]) ∧ w'.ownsRow base 3 1 (.slice q (uL bs).length d) (uL bs).length (rowOf ncells (uL bs)) := by
  rcases h with ⟨hg, v, rfl, ho⟩ | ⟨hg, rfl⟩
  · have e1 : uL bs = unAll bs := if_pos hg
    have e2 : uE bs = 0 := if_pos hg
    rw [e1, e2, rowOf_mapI]
    obtain ⟨q, d, rfl⟩ := owns_slice ho
    exact ⟨q, d, rfl, ho⟩
  · have e1 : uL bs = [] := if_neg hg
    have e2 : uE bs = 4 := if_neg hg
    rw [e1, e2]
    exact ⟨none, 0, rfl, World.ownsRow_nil _ _ _ _⟩
theorem cL_len (zs : List Int) (h : zs.length ≤ 400) : (cL zs).length ≤ 7 := by
  unfold cL
  split
  · rw [chain_length]; omega
  · simp
theorem uL_len {bs : List ByteArray} (hs : sumS bs ≤ 6000) : (uL bs).length ≤ 1500 := by
  have key : ∀ l : List ByteArray, (unAll l).length * 4 ≤ sumS l := by
    intro l
    induction l with
    | nil => simp [unAll, sumS]
    | cons a r ih =>
      have e1 : (unAll (a :: r)).length = a.size / 4 + (unAll r).length := by simp [unAll, unL, upL_length]
      have e2 : sumS (a :: r) = a.size + sumS r := by simp [sumS]
      rw [e1, e2]
      omega
  unfold uL
  split
  · have := key bs; omega
  · simp
/-- Where all went well, what is chained reads back. -/
theorem back_form {zs : List Int} (hc : cE zs = 0) : uL (cL zs) = zs ∧ uE (cL zs) = 0 ∧ ∀ i, i < (cL zs).length → (HL.el (cL zs) i).size ≤ 6000 := by
  have hg : ∀ i, i < zs.length → ok32 (HL.el zs i) := by
    by_cases h : ∀ i, i < zs.length → ok32 (HL.el zs i)
    · exact h
    · have e2 : cE zs = 1 := if_neg h
      rw [e2] at hc
      cases hc
  have e1 : cL zs = chainOf zs := if_pos hg
  rw [e1]
  have h4 : ∀ i, i < (chainOf zs).length → (HL.el (chainOf zs) i).size % 4 = 0 := fun i hi => (chain_size zs i hi).1
  have e2 : uL (chainOf zs) = unAll (chainOf zs) := if_pos h4
  have e3 : uE (chainOf zs) = 0 := if_pos h4
  exact ⟨by rw [e2]; exact unAll_chain zs hg, e3, fun i hi => by have := (chain_size zs i hi).2; omega⟩
end Go.Proofs.YtedcpckocedcoaaGreat
