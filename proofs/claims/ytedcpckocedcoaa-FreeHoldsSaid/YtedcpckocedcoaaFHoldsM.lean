/- arboretumlaw6.FreeHolds: what its loops keep. -/
import Derived.Test.YtedcpckocedcoaaFHoldsL
namespace Go.Proofs.Ytedcpckocedcoaa
open Go.RowKit

theorem take_nextI {ps : List Int} {k : Nat} (hk : k < ps.length) : ps.take (k + 1) = ps.take k ++ [HL.el ps k] := by
  rw [List.take_succ_eq_append_getElem hk]
  have e9 := HL.el_eq ps k hk
  rw [List.getElem?_eq_getElem hk] at e9
  injection e9 with e9
  rw [e9]

/-- Behind k pins; e: the eldest. -/
structure PnI (fb : Nat) (ps : List Int) (k : Nat) (e : Int) (F : Nat → Prop) (w wr : World) : Prop where
  fe : ∃ D, Fe fb fb [] [] k D F wr ∧ PinsR (ps.take k).reverse D
  least : 0 < k → e ∈ ps.take k ∧ ∀ x ∈ ps.take k, e ≤ x
  bel : Below w.heap.size w wr
  fbb : w.heap.size ≤ fb

/-- The eldest behind one more. -/
def eld (k : Nat) (e x : Int) : Int := if k = 0 ∨ x < e then x else e

theorem pn_pin {fb k : Nat} {ps : List Int} {e : Int} {F : Nat → Prop} {w wr : World} (h : PnI fb ps k e F w wr) (hk : k < ps.length) (ht : (Lit.int .i64 (HL.el ps k)).wf = true) (hp : ps.length ≤ 1000) :
    Calls Try.prog 8 #[.pointer (some ⟨fb, 0, none⟩), .int .i64 (HL.el ps k)] wr fun x w' => x = .returned (.tuple #[]) ∧ ∃ F', PnI fb ps (k + 1) (eld k e (HL.el ps k)) F' w w' := by
  obtain ⟨D, hI, hM⟩ := h.fe
  refine (fe_pin_r (HL.el ps k) ht hI hM (by omega) (by simp; omega)).mono ?_
  rintro x w' ⟨hx, D', F', hM', hI', hS⟩
  refine ⟨hx, F', ⟨D', hI', by rw [take_nextI hk, List.reverse_append]; exact hM'⟩, fun _ => ?_, h.bel.trans (hS.1.below h.bel.size (fun k hk => Nat.le_trans h.fbb (hI.ge k hk))), h.fbb⟩
  rw [take_nextI hk]
  unfold eld
  by_cases h0 : k = 0
  · subst h0
    simp
  · obtain ⟨h1, h2⟩ := h.least (by omega)
    by_cases hlt : HL.el ps k < e
    · rw [if_pos (.inr hlt)]
      refine ⟨by simp, fun y hy => ?_⟩
      rcases List.mem_append.1 hy with hy | hy
      · have := h2 y hy; omega
      · rw [List.mem_singleton] at hy; omega
    · rw [if_neg (by omega)]
      refine ⟨List.mem_append_left _ h1, fun y hy => ?_⟩
      rcases List.mem_append.1 hy with hy | hy
      · exact h2 y hy
      · rw [List.mem_singleton] at hy; omega

/-- What waits behind k gifts. -/
def wsOf (gs : List Int) (k : Nat) : List (Int × Int) := (List.range k).map (fun i => (HL.el gs i, (i : Int)))
theorem wsOf_length (gs : List Int) (k : Nat) : (wsOf gs k).length = k := by simp [wsOf]
theorem wsOf_next (gs : List Int) (k : Nat) : wsOf gs (k + 1) = wsOf gs k ++ [(HL.el gs k, (k : Int))] := by simp [wsOf, List.range_succ]

structure GvI (fb : Nat) (ps gs : List Int) (np k : Nat) (F : Nat → Prop) (w wr : World) : Prop where
  fe : ∃ D, Fe fb fb [] (wsOf gs k) np D F wr ∧ PinsR ps.reverse D
  bel : Below w.heap.size w wr
  fbb : w.heap.size ≤ fb

theorem gv_give {fb np k : Nat} {ps gs : List Int} {F : Nat → Prop} {w wr : World} (h : GvI fb ps gs np k F w wr) (hk : k < 1000) :
    Calls Try.prog 9 #[.pointer (some ⟨fb, 0, none⟩), .int .i64 (HL.el gs k), .slice (some ⟨wr.heap.size, 0, none⟩) 1 1] (wr.alloc (.cells #[.int .i64 k] 3)) fun x w' => x = .returned (.tuple #[]) ∧ ∃ F', GvI fb ps gs np (k + 1) F' w w' := by
  obtain ⟨D, hI, hM⟩ := h.fe
  have hal := hI.below ((Below.refl _ wr).alloc (Nat.le_refl _) (.cells #[.int .i64 k] 3))
  refine (fe_give (HL.el gs k) (some ⟨wr.heap.size, 0, none⟩) 1 1 [(k : Int)] hal (rd_new wr [(k : Int)] 3) (fun b o e _ hF => by
    injection e with e
    injection e with e _ _
    subst e
    exact Nat.lt_irrefl _ (hI.lt _ hF)) (by rw [wsOf_length]; omega)).mono ?_
  rintro e w' ⟨he, F', hI', hS⟩
  have hS2 := (Step.still (F := F) ((Below.refl _ wr).alloc (Nat.le_refl _) (.cells #[.int .i64 k] 3))).trans hS
  exact ⟨he, F', ⟨D, by rw [wsOf_next]; exact hI', hM⟩, h.bel.trans (hS2.1.below h.bel.size (fun k hk => Nat.le_trans h.fbb (hI.ge k hk))), h.fbb⟩

/-- What may be taken: page i of a number that no pin holds. -/
def Tk (ps gs : List Int) (m : Nat) (e x : Int) : Prop := ∃ i : Nat, x = (i : Int) ∧ i < m ∧ (0 < ps.length → HL.el gs i ≤ e)

structure HdI (fb : Nat) (ps gs : List Int) (np m n k : Nat) (e : Int) (F : Nat → Prop) (w wr : World) : Prop where
  fe : ∃ D l ws, Fe fb fb l ws np D F wr ∧ PinsR ps.reverse D ∧ l.length + k = n ∧ ws.length + n = m ∧ ∀ x ∈ l, Tk ps gs m e x
  bel : Below w.heap.size w wr
  fbb : w.heap.size ≤ fb

theorem hd_release {fb np m : Nat} {ps gs : List Int} {e : Int} {F : Nat → Prop} {w wr : World} (h : GvI fb ps gs np m F w wr) (hg : gs.length = m) (hl : 0 < ps.length → e ∈ ps ∧ ∀ x ∈ ps, e ≤ x) (hnp : np ≤ 1000) (hm : m ≤ 1000) :
    Calls Try.prog 10 #[.pointer (some ⟨fb, 0, none⟩)] wr fun x w' => ∃ (r : Int) (n : Nat) (F' : Nat → Prop), x = .returned (.int .i64 r) ∧ n ≤ m ∧ HdI fb ps gs np m n 0 e F' w w' := by
  obtain ⟨D, hI, hM⟩ := h.fe
  refine (fe_release hI (by omega) (by rw [wsOf_length]; simp; omega)).mono ?_
  rintro x w' ⟨r, rfl, pinned, border, l', F', hpm, hr, hI', hp', hS⟩
  have hfc := filter_count (goes pinned border) (wsOf gs m)
  rw [wsOf_length] at hfc
  have hll : l'.length = ((wsOf gs m).filter (goes pinned border)).length := by rw [hp'.length_eq]; simp [pagesOf]
  refine ⟨r, _, F', rfl, by omega, ⟨D, l', _, hI', hM, hll, (by omega), fun y hy => ?_⟩, h.bel.trans (hS.1.below h.bel.size (fun k hk => Nat.le_trans h.fbb (hI.ge k hk))), h.fbb⟩
  have hy2 := hp'.mem_iff.1 hy
  simp only [List.nil_append, pagesOf, List.mem_map] at hy2
  obtain ⟨q, hq, rfl⟩ := hy2
  obtain ⟨hq1, hq2⟩ := List.mem_filter.1 hq
  obtain ⟨i, hi, rfl⟩ := List.mem_map.1 hq1
  refine ⟨i, rfl, List.mem_range.1 hi, fun hpos => ?_⟩
  rcases hM.min hpm with ⟨_, h2⟩ | ⟨h1, h2, h3⟩
  · rw [List.reverse_eq_nil_iff] at h2
    rw [h2] at hpos
    cases hpos
  · subst h1
    obtain ⟨k1, k2⟩ := hl hpos
    have h4 := h3 e (List.mem_reverse.2 k1)
    simp only [goes, Bool.not_true, Bool.false_or, decide_eq_true_eq] at hq2
    have h5 : HL.el gs i ≤ border := hq2
    omega

theorem hd_take {fb np m n k : Nat} {ps gs : List Int} {e : Int} {F : Nat → Prop} {w wr : World} (h : HdI fb ps gs np m n k e F w wr) (hk : k < n) :
    Calls Try.prog 12 #[.pointer (some ⟨fb, 0, none⟩)] wr fun x w' => ∃ (i : Nat), x = .returned (.tuple #[.int .i64 i, .bool true]) ∧ i < m ∧ (0 < ps.length → HL.el gs i ≤ e) ∧ ∃ F', HdI fb ps gs np m n (k + 1) e F' w w' := by
  obtain ⟨D, l, ws, hI, hM, h1, h2, h3⟩ := h.fe
  refine (fe_take hI (by omega)).mono ?_
  rintro x w' ⟨rfl, l', F', hI', hp, hmin, hS⟩
  obtain ⟨i, hi, him, hie⟩ := h3 _ (HL.el_mem l 0 (by omega))
  have hll : l'.length + 1 = l.length := by rw [← hp.length_eq]; rfl
  refine ⟨i, by rw [hi], him, hie, F', ⟨D, l', ws, hI', hM, by omega, h2, fun y hy => h3 y (hp.mem_iff.1 (List.mem_cons_of_mem _ hy))⟩, h.bel.trans (hS.1.below h.bel.size (fun k hk => Nat.le_trans h.fbb (hI.ge k hk))), h.fbb⟩

/-- Behind k Unpins. -/
structure UnI (fb : Nat) (ps : List Int) (np r k : Nat) (F : Nat → Prop) (w wr : World) : Prop where
  fe : ∃ D M ws, Fe fb fb [] ws (np + k) D F wr ∧ PinsR M D ∧ M.Perm (ps.drop k) ∧ ws.length = r
  bel : Below w.heap.size w wr
  fbb : w.heap.size ≤ fb

theorem un_unpin {fb np r k : Nat} {ps : List Int} {F : Nat → Prop} {w wr : World} (h : UnI fb ps np r k F w wr) (hk : k < ps.length) (ht : (Lit.int .i64 (HL.el ps k)).wf = true) (hp : ps.length ≤ 1000) (hnp : np ≤ 1000) :
    Calls Try.prog 14 #[.pointer (some ⟨fb, 0, none⟩), .int .i64 (HL.el ps k)] wr fun x w' => x = .returned (.bool true) ∧ ∃ F', UnI fb ps np r (k + 1) F' w w' := by
  obtain ⟨D, M, ws, hI, hM, hperm, hr⟩ := h.fe
  have hd : ps.drop k = HL.el ps k :: ps.drop (k + 1) := by
    rw [List.drop_eq_getElem_cons hk]
    have e9 := HL.el_eq ps k hk
    rw [List.getElem?_eq_getElem hk] at e9
    injection e9 with e9
    rw [e9]
  rw [hd] at hperm
  have hml : M.length ≤ 1000 := by rw [hperm.length_eq, List.length_cons, List.length_drop]; omega
  refine (fe_unpin_r (HL.el ps k) ht hI hM (by omega) (by omega) (hperm.mem_iff.2 List.mem_cons_self)).mono ?_
  rintro x w' ⟨hx, D', F', hM', hI', hS⟩
  refine ⟨hx, F', ⟨D', _, ws, hI', hM', ?_, hr⟩, h.bel.trans (hS.1.below h.bel.size (fun k hk => Nat.le_trans h.fbb (hI.ge k hk))), h.fbb⟩
  have := hperm.erase (HL.el ps k)
  rwa [List.erase_cons_head] at this

theorem un_release {fb np r : Nat} {ps : List Int} {F : Nat → Prop} {w wr : World} (h : UnI fb ps np r ps.length F w wr) (hp : ps.length ≤ 1000) (hnp : np ≤ 1000) (hr : r ≤ 1000) :
    Calls Try.prog 10 #[.pointer (some ⟨fb, 0, none⟩)] wr fun x w' => x = .returned (.int .i64 r) ∧ ∃ D F' l, Fe fb fb l [] (np + ps.length) D F' w' ∧ Below w.heap.size w w' := by
  obtain ⟨D, M, ws, hI, hM, hperm, hwr⟩ := h.fe
  have hM0 : M = [] := by
    have e : ps.drop ps.length = [] := List.drop_length
    rw [e] at hperm
    exact hperm.eq_nil
  refine (fe_release hI (by omega) (by simp; omega)).mono ?_
  rintro x w' ⟨q, rfl, pinned, border, l', F', hpm, hq, hI', hp', hS⟩
  rcases hM.min hpm with ⟨rfl, _⟩ | ⟨_, h2, _⟩
  · have e1 : ws.filter (goes false border) = ws := List.filter_eq_self.2 (fun _ _ => rfl)
    have e2 : ws.filter (fun x => !goes false border x) = [] := List.filter_eq_nil_iff.2 (fun _ _ => by simp [goes])
    rw [e1] at hq
    rw [e2] at hI'
    exact ⟨by rw [hq, hwr], D, F', l', hI', h.bel.trans (hS.1.below h.bel.size (fun k hk => Nat.le_trans h.fbb (hI.ge k hk)))⟩
  · rw [hM0] at h2
    cases h2
theorem HdI.below {fb np m n k : Nat} {ps gs : List Int} {e : Int} {F : Nat → Prop} {w wr w3 : World} (h : HdI fb ps gs np m n k e F w wr) (hb : Below wr.heap.size wr w3) : HdI fb ps gs np m n k e F w w3 := by
  obtain ⟨D, l, ws, hI, h1⟩ := h.fe
  exact ⟨⟨D, l, ws, hI.below hb, h1⟩, h.bel.trans (hb.mono h.bel.size), h.fbb⟩
theorem UnI.below {fb np r k : Nat} {ps : List Int} {F : Nat → Prop} {w wr w3 : World} (h : UnI fb ps np r k F w wr) (hb : Below wr.heap.size wr w3) : UnI fb ps np r k F w w3 := by
  obtain ⟨D, M, ws, hI, h1⟩ := h.fe
  exact ⟨⟨D, M, ws, hI.below hb, h1⟩, h.bel.trans (hb.mono h.bel.size), h.fbb⟩
theorem hd_len {fb np m n k : Nat} {ps gs : List Int} {e : Int} {F : Nat → Prop} {w wr : World} (h : HdI fb ps gs np m n k e F w wr) :
    Calls Try.prog 11 #[.pointer (some ⟨fb, 0, none⟩)] wr fun x w' => x = .returned (.int .i64 ((n - k : Nat) : Int)) ∧ w' = wr := by
  obtain ⟨D, l, ws, hI, hM, h1, h2, h3⟩ := h.fe
  have e := fe_len hI
  rwa [show l.length = n - k by omega] at e
theorem hd_waiting {fb np m n k : Nat} {ps gs : List Int} {e : Int} {F : Nat → Prop} {w wr : World} (h : HdI fb ps gs np m n k e F w wr) :
    Calls Try.prog 13 #[.pointer (some ⟨fb, 0, none⟩)] wr fun x w' => x = .returned (.int .i64 ((m - n : Nat) : Int)) ∧ w' = wr := by
  obtain ⟨D, l, ws, hI, hM, h1, h2, h3⟩ := h.fe
  have e := fe_waiting hI
  rwa [show ws.length = m - n by omega] at e
theorem hd_un {fb np m n : Nat} {ps gs : List Int} {e : Int} {F : Nat → Prop} {w wr : World} (h : HdI fb ps gs np m n n e F w wr) : UnI fb ps np (m - n) 0 F w wr := by
  obtain ⟨D, l, ws, hI, hM, h1, h2, h3⟩ := h.fe
  have hl : l = [] := List.eq_nil_of_length_eq_zero (by omega)
  subst hl
  exact ⟨⟨D, _, ws, hI, hM, by simp, by omega⟩, h.bel, h.fbb⟩
theorem pn_gv {fb np : Nat} {ps gs : List Int} {e : Int} {F : Nat → Prop} {w wr : World} (h : PnI fb ps np e F w wr) (hn : ps.length = np) : GvI fb ps gs np 0 F w wr ∧ (0 < ps.length → e ∈ ps ∧ ∀ x ∈ ps, e ≤ x) := by
  obtain ⟨D, hI, hM⟩ := h.fe
  have ht : ps.take np = ps := List.take_of_length_le (by omega)
  have hl := h.least
  rw [ht] at hM hl
  exact ⟨⟨⟨D, hI, hM⟩, h.bel, h.fbb⟩, fun h0 => hl (by omega)⟩
end Go.Proofs.Ytedcpckocedcoaa
