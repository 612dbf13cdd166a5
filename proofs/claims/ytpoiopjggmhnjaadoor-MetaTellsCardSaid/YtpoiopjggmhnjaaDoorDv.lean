/- dev: a device as a whole; its calls, each with what becomes of it. -/
import Derived.Test.YtpoiopjggmhnjaaDoorCrash
import Derived.Test.YtpoiopjggmhnjaaDoorStep
namespace Go.Proofs.YtpoiopjggmhnjaaDoor
open Go.RowKit Go.Conc

/-- A device (F: its blocks). -/
def Dv (db base : Nat) (m : Int) (on fu : Bool) (lf : Int) (sy nw : List ByteArray) (ws : List Wr) (F : Nat → Prop) (w : World) : Prop :=
  ∃ v4 v5 cv, DevI db base m on fu lf sy nw ws v4 v5 cv w ∧ DevOK sy nw ws ∧ base ≤ w.heap.size ∧ F = devF db v4 v5 cv



section
variable {db base : Nat} {m lf : Int} {on fu : Bool} {sy nw : List ByteArray} {ws : List Wr} {F : Nat → Prop} {w w' : World}

theorem Dv.keep (h : Dv db base m on fu lf sy nw ws F w) {S : Nat → Prop} (hF : Fr S w w') (hS : ∀ k, F k → ¬ S k) : Dv db base m on fu lf sy nw ws F w' := by
  obtain ⟨v4, v5, cv, hI, hok, hb, rfl⟩ := h
  exact ⟨v4, v5, cv, hI.keep hF hS, hok, Nat.le_trans hb hF.size, rfl⟩
theorem Dv.lt (h : Dv db base m on fu lf sy nw ws F w) : ∀ k, F k → k < w.heap.size := by
  obtain ⟨v4, v5, cv, hI, hok, hb, rfl⟩ := h
  exact hI.lt
theorem Dv.ge (h : Dv db base m on fu lf sy nw ws F w) : ∀ k, F k → base ≤ k := by
  obtain ⟨v4, v5, cv, hI, hok, hb, rfl⟩ := h
  exact hI.ge
theorem Dv.here (h : Dv db base m on fu lf sy nw ws F w) : F db := by
  obtain ⟨v4, v5, cv, hI, hok, hb, rfl⟩ := h
  exact .inl rfl
theorem Dv.ok (h : Dv db base m on fu lf sy nw ws F w) : DevOK sy nw ws := by
  obtain ⟨v4, v5, cv, hI, hok, hb, rfl⟩ := h
  exact hok
theorem Dv.bsz (h : Dv db base m on fu lf sy nw ws F w) : base ≤ w.heap.size := by
  obtain ⟨v4, v5, cv, hI, hok, hb, rfl⟩ := h
  exact hb
/-- What is new lies apart. -/
theorem Dv.below (h : Dv db base m on fu lf sy nw ws F w) {w2 : World} {B : Nat} (hB : B ≤ base) (hb : Below B w2 w) (hF : Fr F w w') : Below B w2 w' :=
  hb.trans (hF.below (Nat.le_trans hB h.bsz) (fun k hk => Nat.le_trans hB (h.ge k hk)))

theorem dv_made (m : Int) (w : World) : Dv w.heap.size w.heap.size m true false 0 [] [] [] (fun k => k = w.heap.size) (w.alloc (.cells #[.int .i64 m, .bool true, .bool false, .int .i64 0, .slice none 0 0, .slice none 0 0, .chan none] 64)) := by
  have hb : (w.alloc (.cells #[.int .i64 m, .bool true, .bool false, .int .i64 0, .slice none 0 0, .slice none 0 0, .chan none] 64)).heap[w.heap.size]? = some (.cells #[.int .i64 m, .bool true, .bool false, .int .i64 0, .slice none 0 0, .slice none 0 0, .chan none] 64 (0, 0)) := heap_alloc_new w _
  have cc : ∀ k v, (#[Value.int .i64 m, .bool true, .bool false, .int .i64 0, .slice none 0 0, .slice none 0 0, .chan none])[k]? = some v → (w.alloc (.cells #[.int .i64 m, .bool true, .bool false, .int .i64 0, .slice none 0 0, .slice none 0 0, .chan none] 64)).cell? ⟨w.heap.size, k, none⟩ = some v := fun k v hv => by
    rw [cell_of_row _ _ _ _ _ _ hb]; exact hv
  refine ⟨.slice none 0 0, .slice none 0 0, .chan none, ⟨cc 0 _ rfl, cc 1 _ rfl, cc 2 _ rfl, cc 3 _ rfl, cc 4 _ rfl, cc 5 _ rfl, cc 6 _ rfl, fun k _ => ?_, World.ownsRow_nil _ _ _ _, World.ownsRow_nil _ _ _ _, (by intro e; cases e), (by intro e; cases e), fun g hg => (by cases hg), .inl ⟨rfl, rfl⟩, Nat.le_refl _, fun c hc => (by cases hc)⟩, ⟨rfl, by simp, by simp, by simp, by simp, by simp⟩, by simp, ?_⟩
  · unfold World.frozen?
    rw [hb]
    simp
  · funext k
    unfold devF
    simp [Value.ownBlock]

/-- Does the power fail at an operation? -/
def opFl (fu : Bool) (lf : Int) : Bool := fu && decide (lf ≤ 0)
def opLf (fu : Bool) (lf : Int) : Int := if fu && decide (0 < lf) then lf - 1 else lf

theorem dv_op (v4 v5 cv : Value) (h : DevI db base m true fu lf sy nw ws v4 v5 cv w) (hl : lf ≤ 1000000) :
    Calls Tryd.prog 35 #[.pointer (some ⟨db, 0, none⟩)] w fun e w' => e = .returned (.bool (opFl fu lf)) ∧ DevI db base m (!opFl fu lf) (fu && !opFl fu lf) (opLf fu lf) sy nw ws v4 v5 cv w' ∧ Fr (fun k => k = db) w w' := by
  cases fu with
  | false =>
    refine (dev_op_plain db w h.c2).mono ?_
    rintro e w' ⟨rfl, rfl⟩
    exact ⟨rfl, h, Fr.refl _ _⟩
  | true =>
    by_cases h0 : 0 < lf
    · refine (dev_op_left db lf w h.c2 h.c3 (h.fz 3 (by omega)) h0 hl).mono ?_
      have e1 : opFl true lf = false := by unfold opFl; simp; omega
      have e2 : opLf true lf = lf - 1 := by unfold opLf; simp [h0]
      rw [e1, e2]
      rintro e w' ⟨rfl, rfl⟩
      have hF : Fr (fun k => k = db) w (w.setCell ⟨db, 3, none⟩ (.int .i64 (lf - 1))) := (Fr.refl (fun i => i = db) w).setCell (p := ⟨db, 3, none⟩) (fun _ => rfl) _
      have co : ∀ o, o ≠ 3 → (w.setCell ⟨db, 3, none⟩ (.int .i64 (lf - 1))).cell? ⟨db, o, none⟩ = w.cell? ⟨db, o, none⟩ := fun o ho => World.cell?_setCell_other _ _ _ _ (by intro e9; injection e9 with _ e9 _; omega)
      refine ⟨rfl, ⟨(co 0 (by omega)).trans h.c0, (co 1 (by omega)).trans h.c1, (co 2 (by omega)).trans h.c2, cell_set_same w _ _ _ h.c3, (co 4 (by omega)).trans h.c4, (co 5 (by omega)).trans h.c5, (co 6 (by omega)).trans h.c6, fun o ho => (frozen_set _ _ _ _).trans (h.fz o ho), hF.owns h.o4 (fun g hg e => h.n4 (by rw [hg, e])), hF.owns h.o5 (fun g hg e => h.n5 (by rw [hg, e])), h.n4, h.n5, h.n45, h.ch.keep hF (fun c e9 h9 => ?_), h.bs, h.bc⟩, hF⟩
      rcases h.ch with ⟨e8, _⟩ | ⟨c8, cap8, s8, r8, e8, hc8, _⟩
      · rw [e8] at e9; cases e9
      · rw [e8] at e9; injection e9 with e9; injection e9 with e9; subst e9; exact not_chan h.c0 hc8 h9.symm
    · refine (dev_op_fails db lf true w h.c1 h.c2 h.c3 (h.fz 1 (by omega)) (h.fz 2 (by omega)) (by omega)).mono ?_
      have e1 : opFl true lf = true := by unfold opFl; simp; omega
      have e2 : opLf true lf = lf := by unfold opLf; simp [h0]
      rw [e1, e2]
      rintro e w' ⟨rfl, rfl⟩
      exact ⟨rfl, h.dark.1, h.dark.2⟩
end
end Go.Proofs.YtpoiopjggmhnjaaDoor
