/- Chapter 30, the plain law: the few events of the statements. No program in sight. -/
import Derived.Test.YtaijjmhannhkcaaHistL
namespace Go.Proofs.Ytaijjmhannhkcaa

/-- What the search looks at. -/
def keepE (e : Ev) : Bool := e.sure || !decide (e.kind = 4)
def OrdOf (l : List Ev) : Prop := Ord (fun i => l.getD i default) (fun i => i < l.length ∧ keepE (l.getD i default) = true) (fun _ => False) hst0

theorem doE_put (s : HSt) {e : Ev} (h : e.kind = 1) : doE s e = ((true, e.val), (0, ByteArray.empty)) := by unfold doE; rw [if_pos h]
theorem doE_get (b : Bool) (v : ByteArray) {e : Ev} (h : e.kind = 4) : doE (b, v) e = ((b, v), if b = false then (7, ByteArray.empty) else (0, v)) := by
  unfold doE
  rw [if_neg (by rw [h]; decide), h]
  cases b <;> simp

section
variable {p g l : Ev}
theorem ord_cases {E : Nat → Ev} {I U : Nat → Prop} {s : HSt} (h : Ord E I U s) : (∀ i, I i → (E i).sure = true → U i) ∨ ∃ i, I i ∧ ¬ U i ∧ (∀ j, I j → (E j).sure = true → ¬ U j → j ≠ i → ¬ (E j).to < (E i).frm) ∧ ((E i).sure = true → (doE s (E i)).2 = ((E i).err, (E i).rval)) ∧ Ord E I (fun j => U j ∨ j = i) (doE s (E i)).1 := by
  cases h with
  | fin h => exact .inl h
  | step i hI hU hm hr h => exact .inr ⟨i, hI, hU, hm, hr, h⟩

theorem keep_put (h : p.kind = 1) : keepE p = true := by unfold keepE; rw [h]; simp
theorem keep_sure (h : g.sure = true) : keepE g = true := by unfold keepE; rw [h]; rfl

theorem two_told (hp : p.kind = 1) (hps : p.sure = false) (hg : g.kind = 4) (hgs : g.sure = true) (hr : (g.err, g.rval) = (0, p.val)) : OrdOf [p, g] ↔ ¬ g.to < p.frm := by
  constructor
  · intro h hlt
    rcases ord_cases h with h1 | ⟨i, ⟨hi, _⟩, _, hm, hrr, _⟩
    · exact h1 1 ⟨by simp, keep_sure hgs⟩ hgs
    · match i, hi with
      | 0, _ => exact hm 1 ⟨by simp, keep_sure hgs⟩ hgs (fun h => h) (by omega) hlt
      | 1, _ =>
        have e := hrr hgs
        change (doE hst0 g).2 = (g.err, g.rval) at e
        unfold hst0 at e
        rw [doE_get _ _ hg, hr] at e
        injection e with e
        exact absurd e (by decide)
  · intro hlt
    refine .step 0 ⟨by simp, keep_put hp⟩ (fun h => h) (fun j hj hs _ hj0 => ?_) (fun hs => ?_) ?_
    · match j, hj.1 with
      | 0, _ => exact absurd rfl hj0
      | 1, _ => exact hlt
    · exact absurd (hs.symm.trans hps) (by decide)
    · refine .step 1 ⟨by simp, keep_sure hgs⟩ (by simp) (fun j hj _ hU hj1 => ?_) (fun _ => ?_) (.fin (fun j hj _ => ?_))
      · match j, hj.1 with
        | 0, _ => exact absurd (.inr rfl) hU
        | 1, _ => exact absurd rfl hj1
      · show (doE (doE hst0 p).1 g).2 = (g.err, g.rval)
        rw [doE_put _ hp, doE_get _ _ hg, hr]
        rfl
      · match j, hj.1 with
        | 0, _ => exact .inl (.inr rfl)
        | 1, _ => exact .inr rfl

theorem two_none (hps : p.sure = false) (hg : g.kind = 4) (hgs : g.sure = true) (hr : (g.err, g.rval) = (7, ByteArray.empty)) : OrdOf [p, g] := by
  refine .step 1 ⟨by simp, keep_sure hgs⟩ (fun h => h) (fun j hj hs _ hj1 => ?_) (fun _ => ?_) (.fin (fun j hj hs => ?_))
  · match j, hj.1 with
    | 0, _ => exact absurd (hs.symm.trans hps) (by decide)
    | 1, _ => exact absurd rfl hj1
  · show (doE hst0 g).2 = (g.err, g.rval)
    unfold hst0
    rw [doE_get _ _ hg, hr]
    rfl
  · match j, hj.1 with
    | 0, _ => exact absurd (hs.symm.trans hps) (by decide)
    | 1, _ => exact .inr rfl

theorem three_told (hp : p.kind = 1) (hg : g.kind = 4) (hgs : g.sure = true) (hl : l.kind = 4) (hls : l.sure = true) (hr : (g.err, g.rval) = (0, p.val)) (hrl : (l.err, l.rval) = (7, ByteArray.empty)) (hgl : g.to < l.frm) : ¬ OrdOf [p, g, l] := by
  intro h
  have kg : (1 : Nat) < [p, g, l].length ∧ keepE ([p, g, l].getD 1 default) = true := ⟨by simp, keep_sure hgs⟩
  have kl : (2 : Nat) < [p, g, l].length ∧ keepE ([p, g, l].getD 2 default) = true := ⟨by simp, keep_sure hls⟩
  have nl : ∀ v : ByteArray, (doE (true, v) l).2 = (l.err, l.rval) → False := fun v e => by
    rw [doE_get _ _ hl, hrl] at e
    injection e with e
    exact absurd e (by decide)
  rcases ord_cases h with h1 | ⟨i, ⟨hi, _⟩, _, hm, hrr, h2⟩
  · exact h1 1 kg hgs
  · match i, hi with
    | 0, _ =>
      have h2 : Ord _ _ (fun j => False ∨ j = 0) (doE hst0 p).1 := h2
      rw [doE_put _ hp] at h2
      rcases ord_cases h2 with h3 | ⟨i, ⟨hi, _⟩, hU, hm, hrr, h3⟩
      · have := h3 1 kg hgs
        simp at this
      · match i, hi with
        | 0, _ => exact hU (.inr rfl)
        | 1, _ =>
          have h3 : Ord _ _ (fun j => (False ∨ j = 0) ∨ j = 1) (doE (true, p.val) g).1 := h3
          rw [doE_get _ _ hg] at h3
          rcases ord_cases h3 with h4 | ⟨i, ⟨hi, _⟩, hU, _, hrr, _⟩
          · have := h4 2 kl hls
            simp at this
          · match i, hi with
            | 0, _ => exact hU (.inl (.inr rfl))
            | 1, _ => exact hU (.inr rfl)
            | 2, _ => exact nl _ (hrr hls)
        | 2, _ => exact hm 1 kg hgs (by simp) (by omega) hgl
    | 1, _ =>
      have e := hrr hgs
      change (doE hst0 g).2 = (g.err, g.rval) at e
      unfold hst0 at e
      rw [doE_get _ _ hg, hr] at e
      injection e with e
      exact absurd e (by decide)
    | 2, _ => exact hm 1 kg hgs (fun h => h) (by omega) hgl

theorem three_none (hps : p.sure = false) (hg : g.kind = 4) (hgs : g.sure = true) (hl : l.kind = 4) (hls : l.sure = true) (hr : (g.err, g.rval) = (7, ByteArray.empty)) (hrl : (l.err, l.rval) = (7, ByteArray.empty)) (hlg : ¬ l.to < g.frm) : OrdOf [p, g, l] := by
  refine .step 1 ⟨by simp, keep_sure hgs⟩ (fun h => h) (fun j hj hs _ hj1 => ?_) (fun _ => ?_) ?_
  · match j, hj.1 with
    | 0, _ => exact absurd (hs.symm.trans hps) (by decide)
    | 1, _ => exact absurd rfl hj1
    | 2, _ => exact hlg
  · show (doE hst0 g).2 = (g.err, g.rval)
    unfold hst0
    rw [doE_get _ _ hg, hr]
    rfl
  · show Ord _ _ (fun j => False ∨ j = 1) (doE hst0 g).1
    unfold hst0
    rw [doE_get _ _ hg]
    refine .step 2 ⟨by simp, keep_sure hls⟩ (by simp) (fun j hj hs hU hj2 => ?_) (fun _ => ?_) (.fin (fun j hj hs => ?_))
    · match j, hj.1 with
      | 0, _ => exact absurd (hs.symm.trans hps) (by decide)
      | 1, _ => exact absurd (.inr rfl) hU
      | 2, _ => exact absurd rfl hj2
    · show (doE (false, ByteArray.empty) l).2 = (l.err, l.rval)
      rw [doE_get _ _ hl, hrl]
      rfl
    · match j, hj.1 with
      | 0, _ => exact absurd (hs.symm.trans hps) (by decide)
      | 1, _ => exact .inl (.inr rfl)
      | 2, _ => exact .inr rfl

/-- A put that is done, then a get that is told its value. -/
theorem two_put (hp : p.kind = 1) (hpr : (p.err, p.rval) = (0, ByteArray.empty)) (hg : g.kind = 4) (hgs : g.sure = true) (hr : (g.err, g.rval) = (0, p.val)) (hlt : ¬ g.to < p.frm) : OrdOf [p, g] := by
  refine .step 0 ⟨by simp, keep_put hp⟩ (fun h => h) (fun j hj hs _ hj0 => ?_) (fun hs => ?_) ?_
  · match j, hj.1 with
    | 0, _ => exact absurd rfl hj0
    | 1, _ => exact hlt
  · show (doE hst0 p).2 = (p.err, p.rval)
    rw [doE_put _ hp, hpr]
  · refine .step 1 ⟨by simp, keep_sure hgs⟩ (by simp) (fun j hj _ hU hj1 => ?_) (fun _ => ?_) (.fin (fun j hj _ => ?_))
    · match j, hj.1 with
      | 0, _ => exact absurd (.inr rfl) hU
      | 1, _ => exact absurd rfl hj1
    · show (doE (doE hst0 p).1 g).2 = (g.err, g.rval)
      rw [doE_put _ hp, doE_get _ _ hg, hr]
      rfl
    · match j, hj.1 with
      | 0, _ => exact .inl (.inr rfl)
      | 1, _ => exact .inr rfl
/-- A put that is done, then a get that is told of none. -/
theorem two_lost (hp : p.kind = 1) (hps : p.sure = true) (hg : g.kind = 4) (hgs : g.sure = true) (hr : (g.err, g.rval) = (7, ByteArray.empty)) (hpg : p.to < g.frm) : ¬ OrdOf [p, g] := by
  intro h
  rcases ord_cases h with h1 | ⟨i, ⟨hi, _⟩, _, hm, hrr, h2⟩
  · exact h1 1 ⟨by simp, keep_sure hgs⟩ hgs
  · match i, hi with
    | 0, _ =>
      have h2 : Ord _ _ (fun j => False ∨ j = 0) (doE hst0 p).1 := h2
      rw [doE_put _ hp] at h2
      rcases ord_cases h2 with h3 | ⟨i, ⟨hi, _⟩, hU, _, hrr, _⟩
      · have := h3 1 ⟨by simp, keep_sure hgs⟩ hgs
        simp at this
      · match i, hi with
        | 0, _ => exact hU (.inr rfl)
        | 1, _ =>
          have e : (doE (true, p.val) g).2 = (g.err, g.rval) := hrr hgs
          rw [doE_get _ _ hg, hr] at e
          injection e with e
          exact absurd e (by decide)
    | 1, _ => exact hm 0 ⟨by simp, keep_put hp⟩ hps (fun h => h) (by omega) hpg
end
end Go.Proofs.Ytaijjmhannhkcaa
