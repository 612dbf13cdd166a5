/- hist's search: the map of what was seen. -/
import Derived.Test.YtaijjmhannhkcaaMay
import Derived.Maps.OwnSet
import Derived.Maps.Keyed
import Derived.Maps.Views
import Derived.DeepKeys4
namespace Go.Proofs.Ytaijjmhannhkcaa
open Go.RowKit Go.Maps

theorem laidB : laidOutB Try.prog = true := by kernel_rfl
theorem rowB : (74 : TypeId) < Try.prog.types.size := of_decide_eq_true (by kernel_rfl)
theorem wideB : (match Try.prog.underlying 74 with | some (.array _ _) | some (.struct _) => true | _ => false) = true := by kernel_rfl
set_option maxRecDepth 100000 in
theorem lawB : Keyed Try.prog 74 := Keyed.of_law (deep_law_laid laidB (m := 3) (by omega) rowB (by kernel_rfl) wideB)

/-- A key as a value, and as a datum. -/
def beenV (u : Nat) (s : HSt) : Value := .agg #[.int .i64 u, .bool s.1, .string s.2]
def beenL (u : Nat) (s : HSt) : Lit := .string (keyBytes [.int .i64 u, .bool s.1, .string s.2.data.toList])
set_option maxRecDepth 100000 in
theorem been_key (u : Nat) (s : HSt) (hu : (Lit.int .i64 (u : Int)).wf = true) (hs : s.2.size ≤ maxLen) : keyOf Try.prog 74 (beenV u s) = some (beenL u s) := by
  obtain ⟨b, v⟩ := s
  have hs : v.size ≤ maxLen := hs
  have k1 : Try.prog.keyType 74 = true := by kernel_rfl
  have k2 : (beenV u (b, v)).formed Try.prog 74 = true := by kernel_rfl
  have c1 : Try.prog.cellsOf 74 = 3 := by kernel_rfl
  have c2 : Try.prog.cellsOf 3 = 1 := by kernel_rfl
  have c3 : Try.prog.cellsOf 56 = 2 := by kernel_rfl
  have c4 : Try.prog.cellsOf 4 = 1 := by kernel_rfl
  have c5 : Try.prog.cellsOf 9 = 1 := by kernel_rfl
  have k3 : ∀ m, Try.prog.keyLits (m + 3) 74 (beenV u (b, v)).cells.toList = some [.int .i64 u, .bool b, .string v.data.toList] := by
    intro m
    simp [Program.keyLits, beenV, Value.cells, Try.underlying74, Try.underlying56, Try.underlying3, Try.underlying4, Try.underlying9, hu, hs, c1, c2, c3, c4, c5]
    rw [if_pos (by intro i hi; match i, hi with | 0, _ => simp | 1, _ => simp)]
    rfl
  obtain ⟨m, hm⟩ : ∃ m, Try.prog.types.size + 1 = m + 3 := ⟨Try.prog.types.size - 2, by
    have : decide (2 ≤ Try.prog.types.size) = true := by kernel_rfl
    have := of_decide_eq_true this
    omega⟩
  unfold keyOf
  rw [Try.underlying74]
  simp only [k1, k2, Bool.and_self, if_true]
  rw [hm, k3]
  rfl
theorem beenL_inj {u u' : Nat} {s s' : HSt} (hu : (Lit.int .i64 (u : Int)).wf = true) (hs : s.2.size ≤ maxLen) (hu' : (Lit.int .i64 (u' : Int)).wf = true) (hs' : s'.2.size ≤ maxLen) (h : beenL u s = beenL u' s') : u = u' ∧ s = s' := by
  have h1 := been_key u s hu hs
  have h2 := been_key u' s' hu' hs'
  rw [h] at h1
  have e := lawB.inj h1 h2
  obtain ⟨b, v⟩ := s
  obtain ⟨b', v'⟩ := s'
  unfold beenV at e
  injection e with e
  have e := congrArg Array.toList e
  simp at e
  obtain ⟨e1, e2, e3⟩ := e
  exact ⟨by omega, by rw [e2, e3]⟩

/-- The map in block mb holds just the states of S. -/
def SeenR (mb nb : Nat) (S : Nat × HSt → Prop) (w : World) : Prop := ∃ D : DataW Unit, w.ownsMap Try.prog 74 unitElem mb nb D ∧ Tidy D ∧ ∀ u s, (Lit.int .i64 (u : Nat)).wf = true → s.2.size ≤ maxLen → (has D (beenL u s) = true ↔ S (u, s))
theorem SeenR.keep {mb nb : Nat} {S : Nat × HSt → Prop} {F : Nat → Prop} {w w' : World} (h : SeenR mb nb S w) (hF : Fr F w w') (hn : ¬ F mb) : SeenR mb nb S w' := by
  obtain ⟨D, h, h2⟩ := h
  have hlt := h.lt
  obtain ⟨es, clock, hb, hr⟩ := h
  exact ⟨D, ⟨es, clock, (hF.block mb hlt hn).trans hb, hr⟩, h2⟩
theorem SeenR.lt {mb nb : Nat} {S : Nat × HSt → Prop} {w : World} (h : SeenR mb nb S w) : mb < w.heap.size := by
  obtain ⟨D, h, _⟩ := h
  exact h.lt
set_option maxRecDepth 100000 in
/-- _, was := x.seen[k]. -/
theorem seen_look {mb nb : Nat} {S : Nat × HSt → Prop} {w : World} (h : SeenR mb nb S w) (u : Nat) (s : HSt) (hu : (Lit.int .i64 (u : Int)).wf = true) (hs : s.2.size ≤ maxLen) : ∃ r : Bool, (r = true ↔ S (u, s)) ∧ ∀ W, Fr (fun _ => False) w W → (Instr.lookup 49 (.map (some mb)) (beenV u s) true).run Try.prog W = .ok (.tuple #[.agg #[], .bool r]) W := by
  obtain ⟨D, ho, ht, hR⟩ := h
  refine ⟨has D (beenL u s), hR u s hu hs, fun W hW => ?_⟩
  have hlt := ho.lt
  obtain ⟨es, clock, hb, hr⟩ := ho
  have ho' : W.ownsMap Try.prog 74 unitElem mb nb D := ⟨es, clock, (hW.block mb hlt (fun h => h)).trans hb, hr⟩
  obtain ⟨v, ps, hrun, hv⟩ := ho'.look_ok lawB Try.underlying49 (show (zeroValue 75).run Try.prog W = .ok (.agg #[]) W from rfl) unitElem_mk (been_key u s hu hs)
  obtain ⟨rfl, _⟩ := unitElem_inv hv
  exact hrun
/-- x.seen[k] = struct{}{}. -/
theorem seen_put {mb nb : Nat} {S : Nat × HSt → Prop} {w : World} (h : SeenR mb nb S w) (u : Nat) (s : HSt) (hu : (Lit.int .i64 (u : Int)).wf = true) (hs : s.2.size ≤ maxLen) (hn : nb < maxLen) :
    ∃ w', (Instr.mapUpdate 49 (.map (some mb)) (beenV u s) (.agg #[])).run Try.prog w = .ok () w' ∧ SeenR mb (nb + 1) (fun k => k = (u, s) ∨ S k) w' ∧ Fr (fun k => k = mb) w w' := by
  obtain ⟨D, ho, ht, hR⟩ := h
  obtain ⟨w1, hup, ho1, ht1⟩ := ho.store lawB Try.underlying49 hn (been_key u s hu hs) unitElem_mk
  refine ⟨w1, hup, ⟨_, ho1, ht.put (lawB.key (been_key u s hu hs)) _, fun u' s' hu' hs' => ?_⟩, Fr.of_grown ht1.grown (fun i _ e => by cases e; rfl)⟩
  by_cases e : beenL u' s' = beenL u s
  · rw [e, has_put_same ht.isMap (lawB.key (been_key u s hu hs))]
    obtain ⟨rfl, rfl⟩ := beenL_inj hu' hs' hu hs e
    simp
  · rw [has_put_other e, hR u' s' hu' hs']
    constructor
    · exact .inr
    · rintro (e2 | h)
      · injection e2 with e2 e3
        exact absurd (by rw [e2, e3]) e
      · exact h
end Go.Proofs.Ytaijjmhannhkcaa
