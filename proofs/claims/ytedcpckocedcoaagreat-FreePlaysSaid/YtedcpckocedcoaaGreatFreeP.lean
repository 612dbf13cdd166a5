/- free's Free: Pin, Unpin. -/
import Derived.Test.YtedcpckocedcoaaGreatFreeG
import Derived.OpenShut
namespace Go.Proofs.YtedcpckocedcoaaGreat
open Go.RowKit
attribute [local go_sem] Oper.semAt_some

theorem keyI : Go.Maps.Keyed Tryz.prog 3 := Go.Maps.int_keyed Tryz.underlying3
theorem key_at {t : Int} (ht : (Lit.int .i64 t).wf = true) : keyOf Tryz.prog 3 (.int .i64 t) = some (.int .i64 t) := by
  simp [keyOf, Tryz.underlying3, mapKey, ht]
theorem map_nil_nil (w : World) : (binOp .eql 37 (.map none) (.map none)).run Tryz.prog w = .ok (.bool true) w := by kernel_rfl
theorem map_some_nil (b : Nat) (w : World) : (binOp .eql 37 (.map (some b)) (.map none)).run Tryz.prog w = .ok (.bool false) w := by kernel_rfl
theorem fr_turned {w w' : World} {b : Nat} (h : w.mapTurned w' b) : Fr (fun k => k = b) w w' := Fr.of_grown h.grown (fun i _ e => by cases e; rfl)
def litI (c : Int) : DU := .lit (.int .i64 c)

section
variable {fb base : Nat} {v vw vp : Value} {l : List Int} {ws : List (Int × Int)} {np : Nat} {D : DU} {F : Nat → Prop} {w w' : World}

/-- The map is another one. -/
theorem FrI.pinned {b n' : Nat} {D' : DU} (h : FrI fb base v vw (.map (some b)) l ws np D w) (ho : w'.ownsMap Tryz.prog 3 (plainElem Tryz.prog 3) b n' D') (hF : Fr (fun k => k = b) w w') : FrI fb base v vw (.map (some b)) l ws n' D' w' := by
  have hb : ∀ k, (k = fb ∨ v.ownBlock = some k ∨ vw.ownBlock = some k) → ¬ k = b := fun k hk e => h.apart2 hk (by rw [e])
  have hlt := cell_lt h.c1
  have hbb : base ≤ b := h.ge b (.inr (.inr (.inr rfl)))
  exact ⟨h.pile.keep hF (fun k hk => hb k (hk.imp id .inl)), (hF.cell (p := ⟨fb, 1, none⟩) hlt (hb fb (.inl rfl))).trans h.c1, (hF.frozen (p := ⟨fb, 1, none⟩) hlt (hb fb (.inl rfl))).trans h.f1, hF.owns h.row (fun g hg => hb g (.inr (.inr hg))), h.n1,
    (hF.cell (p := ⟨fb, 2, none⟩) hlt (hb fb (.inl rfl))).trans h.c2, (hF.frozen (p := ⟨fb, 2, none⟩) hlt (hb fb (.inl rfl))).trans h.f2, .inr ⟨b, rfl, hbb, ho⟩, h.few, h.fbb⟩

set_option maxHeartbeats 1000000 in
set_option maxRecDepth 100000 in
theorem pin_some {b n : Nat} (t : Int) (ht : (Lit.int .i64 t).wf = true) (hc : w.cell? ⟨fb, 2, none⟩ = some (.map (some b))) (ho : w.ownsMap Tryz.prog 3 (plainElem (H := Unit) Tryz.prog 3) b n D) (hn : n < 1000000) :
    Calls Tryz.prog 16 #[.pointer (some ⟨fb, 0, none⟩), .int .i64 t] w fun e w' => e = .returned (.tuple #[]) ∧ ∃ c, D.atKey (.int .i64 t) (litI 0) = litI c ∧ w'.ownsMap Tryz.prog 3 (plainElem (H := Unit) Tryz.prog 3) b (n + 1) (D.put (.int .i64 t) (litI (wrap64 (c + 1)))) ∧ Fr (fun k => k = b) w w' := by
  have hq := map_some_nil b
  obtain ⟨c, hlk, hat, hwc⟩ := ho.lookup_int keyI Tryz.underlying37 Tryz.underlying3 rfl (key_at ht)
  obtain ⟨w1, hup, ho1, ht1⟩ := ho.store keyI Tryz.underlying37 (by unfold maxLen; omega) (key_at ht) (plainElem_int (H := Unit) Tryz.underlying3 (wrap64_wf (c + 1)))
  have HAT := Lib.hid hat
  have HO := Lib.hid ho1
  have HF := Lib.hid (fr_turned ht1)
  clear hat ho1 ht1 ho hwc
  go_enter Tryz.func16, Tryz.ntmps16
  go_wp2
  go_end0
  exact ⟨rfl, c, HAT.out, HO.out, HF.out⟩

set_option maxHeartbeats 1000000 in
set_option maxRecDepth 100000 in
theorem pin_nil (t : Int) (ht : (Lit.int .i64 t).wf = true) (hc : w.cell? ⟨fb, 2, none⟩ = some (.map none)) (hf : w.frozen? ⟨fb, 2, none⟩ = false) :
    Calls Tryz.prog 16 #[.pointer (some ⟨fb, 0, none⟩), .int .i64 t] w fun e w' => e = .returned (.tuple #[]) ∧ w'.ownsMap Tryz.prog 3 (plainElem (H := Unit) Tryz.prog 3) w.heap.size 1 (DataW.put (.map []) (.int .i64 t) (litI 1)) ∧
      Fr (fun k => k = w.heap.size) ((w.setCell ⟨fb, 2, none⟩ (.map (some w.heap.size))).alloc (.map #[] 0)) w' := by
  have hq := map_nil_nil
  have hmm := @run_makeMap Tryz.prog
  have hlt : fb < w.heap.size := cell_lt hc
  have hsz0 : (w.setCell ⟨fb, 2, none⟩ (.map (some w.heap.size))).heap.size = w.heap.size := by simp [World.setCell]
  have own1 : ((w.setCell ⟨fb, 2, none⟩ (.map (some w.heap.size))).alloc (.map #[] 0)).ownsMap Tryz.prog 3 (plainElem (H := Unit) Tryz.prog 3) w.heap.size 0 (.map []) := by
    have := World.ownsMap_made (H := Unit) (w.setCell ⟨fb, 2, none⟩ (.map (some w.heap.size))) Tryz.prog 3 (plainElem Tryz.prog 3)
    rw [hsz0] at this
    exact this
  have c1 : ((w.setCell ⟨fb, 2, none⟩ (.map (some w.heap.size))).alloc (.map #[] 0)).cell? ⟨fb, 2, none⟩ = some (.map (some w.heap.size)) := by
    rw [World.cell?_of_block (a := ⟨fb, 2, none⟩) (Below.heap_alloc _ _ fb (by rw [hsz0]; exact hlt))]
    exact cell_set_same w _ _ _ hc
  obtain ⟨c, hlk, hat, hwc⟩ := own1.lookup_int keyI Tryz.underlying37 Tryz.underlying3 rfl (key_at ht)
  have hc0 : c = 0 := by
    have e : DataW.atKey (H := Unit) (.map []) (.int .i64 t) (.lit (.int .i64 0)) = .lit (.int .i64 0) := rfl
    rw [e] at hat
    injection hat with hat
    injection hat with _ hat
    exact hat.symm
  subst hc0
  obtain ⟨w1, hup, ho1, ht1⟩ := own1.store keyI Tryz.underlying37 (by unfold maxLen; omega) (key_at ht) (plainElem_int (H := Unit) Tryz.underlying3 (show (Lit.int .i64 1).wf = true by decide))
  have HO := Lib.hid ho1
  have HF := Lib.hid (fr_turned ht1)
  clear hat ho1 ht1 own1 hwc
  go_enter Tryz.func16, Tryz.ntmps16
  go_wp2
  go_end0
  exact ⟨rfl, HO.out, HF.out⟩

theorem PinsI.few (h : PinsI base vp np D w) : vp = .map none ∨ ∃ b, vp = .map (some b) := by
  rcases h with ⟨e, _⟩ | ⟨b, e, _⟩
  · exact .inl e
  · exact .inr ⟨b, e⟩

/-- Pin. -/
theorem fe_pin (t : Int) (ht : (Lit.int .i64 t).wf = true) (h : Fe fb base l ws np D F w) (hn : np < 1000000) :
    Calls Tryz.prog 16 #[.pointer (some ⟨fb, 0, none⟩), .int .i64 t] w fun e w' => e = .returned (.tuple #[]) ∧ ∃ c F', D.atKey (.int .i64 t) (litI 0) = litI c ∧ Fe fb base l ws (np + 1) (D.put (.int .i64 t) (litI (wrap64 (c + 1)))) F' w' ∧ Step F F' w w' := by
  obtain ⟨v, vw, vp, h, rfl⟩ := h
  rcases h.pins with ⟨rfl, rfl⟩ | ⟨b, rfl, hb, ho⟩
  · refine (pin_nil t ht h.c2 h.f2).mono ?_
    rintro e w' ⟨he, ho, hF⟩
    have hlt : fb < w.heap.size := cell_lt h.c1
    have hsz0 : (w.setCell ⟨fb, 2, none⟩ (.map (some w.heap.size))).heap.size = w.heap.size := by simp [World.setCell]
    have hF0 : Fr (fun k => k = fb) w ((w.setCell ⟨fb, 2, none⟩ (.map (some w.heap.size))).alloc (.map #[] 0)) := ((Fr.refl (fun k => k = fb) w).setCell (p := ⟨fb, 2, none⟩) (fun _ => rfl) _).alloc _
    have hO0 : Others fb 2 w ((w.setCell ⟨fb, 2, none⟩ (.map (some w.heap.size))).alloc (.map #[] 0)) := (Others.set fb 2 w _).trans (Others.of_block (Below.heap_alloc _ _ _ (by rw [hsz0]; exact hlt)))
    have hO1 : Others fb 2 ((w.setCell ⟨fb, 2, none⟩ (.map (some w.heap.size))).alloc (.map #[] 0)) w' := Others.of_block (hF.block fb (by rw [World.size_alloc, hsz0]; omega) (by show ¬ fb = w.heap.size; omega))
    have hO := hO0.trans hO1
    have hFw : Fr (fun k => k = fb) w w' := Fr.trans hF0 hF (fun i hi hlt => by have : i = w.heap.size := hi; omega)
    have hc2 : w'.cell? ⟨fb, 2, none⟩ = some (.map (some w.heap.size)) := by
      rw [World.cell?_of_block (a := ⟨fb, 2, none⟩) (hF.block fb (by rw [World.size_alloc, hsz0]; omega) (by show ¬ fb = w.heap.size; omega)), World.cell?_of_block (a := ⟨fb, 2, none⟩) (Below.heap_alloc _ _ fb (by rw [hsz0]; exact hlt))]
      exact cell_set_same w _ _ _ h.c2
    have hf2 : w'.frozen? ⟨fb, 2, none⟩ = false := by
      rw [World.frozen?_of_block (a := ⟨fb, 2, none⟩) (hF.block fb (by rw [World.size_alloc, hsz0]; omega) (by show ¬ fb = w.heap.size; omega)), World.frozen?_of_block (a := ⟨fb, 2, none⟩) (Below.heap_alloc _ _ fb (by rw [hsz0]; exact hlt)), frozen_set]
      exact h.f2
    refine ⟨he, 0, _, rfl, ⟨v, vw, .map (some w.heap.size), ⟨⟨⟨(hO 0 (by omega)).1.trans h.pile.1.1, (hO 0 (by omega)).2.trans h.pile.1.2.1, hFw.owns h.pile.1.2.2.1 (fun g hg e => h.pile.1.2.2.2.1 (by rw [hg, e])), h.pile.1.2.2.2.1, h.pile.1.2.2.2.2.1, Nat.le_trans h.pile.1.2.2.2.2.2 hFw.size⟩, h.pile.2⟩, (hO 1 (by omega)).1.trans h.c1, (hO 1 (by omega)).2.trans h.f1, hFw.owns h.row (fun g hg e => h.n1 (by rw [hg, e])), h.n1, hc2, hf2, .inr ⟨w.heap.size, rfl, h.pile.1.2.2.2.2.2, (by rw [show wrap64 (0 + 1) = 1 by unfold wrap64; omega]; exact ho.mono (show 1 ≤ np + 1 by omega))⟩, h.few, h.fbb⟩, rfl⟩, hFw.mono (fun i _ hi => .inl hi), fun k hk => ?_⟩
    rcases hk with hk | hk | hk | hk
    · exact .inl (.inl hk)
    · exact .inl (.inr (.inl hk))
    · exact .inl (.inr (.inr (.inl hk)))
    · injection hk with hk
      injection hk with hk
      exact .inr (by omega)
  · refine (pin_some t ht h.c2 ho hn).mono ?_
    rintro e w' ⟨he, c, hat, ho', hF⟩
    exact ⟨he, c, _, hat, ⟨v, vw, _, h.pinned ho' hF, rfl⟩, hF.mono (fun i _ hi => .inr (.inr (.inr (by rw [show i = b from hi])))), fun k hk => .inl hk⟩

theorem keyL (t : Int) : WideAt.IsKeyLit (.int .i64 t) := trivial
set_option maxRecDepth 100000 in
theorem atKey_litI {c : Int} {b n : Nat} (ho : w.ownsMap Tryz.prog 3 (plainElem (H := Unit) Tryz.prog 3) b n D) {t : Int} (ht : (Lit.int .i64 t).wf = true) (hat : D.atKey (.int .i64 t) (litI 0) = litI c) :
    (Instr.lookup 37 (.map (some b)) (.int .i64 t) false).run Tryz.prog w = .ok (.int .i64 c) w ∧ (Lit.int .i64 c).wf = true := by
  obtain ⟨c', hlk, hat', hwc⟩ := ho.lookup_int keyI Tryz.underlying37 Tryz.underlying3 rfl (key_at ht)
  have e : litI c = litI c' := hat.symm.trans hat'
  injection e with e
  injection e with _ e
  subst e
  exact ⟨hlk, hwc⟩

set_option maxRecDepth 100000 in
/-- No such pin. -/
theorem pins_none (hp : PinsI base vp np D w) (t : Int) (ht : (Lit.int .i64 t).wf = true) (hat : D.atKey (.int .i64 t) (litI 0) = litI 0) : (Instr.lookup 37 vp (.int .i64 t) false).run Tryz.prog w = .ok (.int .i64 0) w := by
  rcases hp with ⟨rfl, rfl⟩ | ⟨b, rfl, _, ho⟩
  · exact Go.Maps.look_nil false keyI Tryz.underlying37 (show (zeroValue 3).run Tryz.prog w = .ok (.int .i64 0) w from rfl) (key_at ht)
  · exact (atKey_litI ho ht hat).1

set_option maxRecDepth 100000 in
theorem fe_unpin_no (t : Int) (ht : (Lit.int .i64 t).wf = true) (h : Fe fb base l ws np D F w) (hat : D.atKey (.int .i64 t) (litI 0) = litI 0) :
    Calls Tryz.prog 18 #[.pointer (some ⟨fb, 0, none⟩), .int .i64 t] w fun e w' => e = .returned (.bool false) ∧ w' = w := by
  obtain ⟨v, vw, vp, h, rfl⟩ := h
  have hlk := pins_none h.pins t ht hat
  have hc := h.c2
  clear h
  go_enter Tryz.func18, Tryz.ntmps18
  go_wp2
  go_ret
  exact ⟨rfl, rfl⟩

set_option maxRecDepth 100000 in
theorem unpin_last {b n : Nat} (t : Int) (ht : (Lit.int .i64 t).wf = true) (hc : w.cell? ⟨fb, 2, none⟩ = some (.map (some b))) (ho : w.ownsMap Tryz.prog 3 (plainElem (H := Unit) Tryz.prog 3) b n D) (hn : n < 1000000) (hne : fb ≠ b) (hat : D.atKey (.int .i64 t) (litI 0) = litI 1) :
    Calls Tryz.prog 18 #[.pointer (some ⟨fb, 0, none⟩), .int .i64 t] w fun e w' => e = .returned (.bool true) ∧ w'.ownsMap Tryz.prog 3 (plainElem (H := Unit) Tryz.prog 3) b (n + 1) ((D.put (.int .i64 t) (litI 0)).del (.int .i64 t)) ∧ Fr (fun k => k = b) w w' := by
  have hlt := cell_lt hc
  have hlk := (atKey_litI ho ht hat).1
  obtain ⟨w1, hup, ho1, ht1⟩ := ho.store keyI Tryz.underlying37 (by unfold maxLen; omega) (key_at ht) (plainElem_int (H := Unit) Tryz.underlying3 (show (Lit.int .i64 0).wf = true by decide))
  have hlk1 := (atKey_litI ho1 ht (c := 0) (Go.Maps.atKey_put_same ho.isMap (keyL t) _ _)).1
  obtain ⟨w2, hdl, ho2, ht2⟩ := ho1.drop keyI Tryz.underlying37 (key_at ht) 0
  have hc1 := ((fr_turned ht1).cell (p := ⟨fb, 2, none⟩) hlt hne).trans hc
  have HO := Lib.hid ho2
  have HF := Lib.hid (Fr.trans (fr_turned ht1) (fr_turned ht2) (fun _ h _ => h))
  clear ho ho1 ho2 ht1 ht2 hat
  go_enter Tryz.func18, Tryz.ntmps18
  go_wp2
  go_ret
  exact ⟨rfl, HO.out, HF.out⟩

set_option maxRecDepth 100000 in
theorem unpin_more {b n : Nat} (t c : Int) (ht : (Lit.int .i64 t).wf = true) (hc : w.cell? ⟨fb, 2, none⟩ = some (.map (some b))) (ho : w.ownsMap Tryz.prog 3 (plainElem (H := Unit) Tryz.prog 3) b n D) (hn : n < 1000000) (hne : fb ≠ b) (hat : D.atKey (.int .i64 t) (litI 0) = litI c) (hc1 : 1 < c) (hcm : c < 1000000) :
    Calls Tryz.prog 18 #[.pointer (some ⟨fb, 0, none⟩), .int .i64 t] w fun e w' => e = .returned (.bool true) ∧ w'.ownsMap Tryz.prog 3 (plainElem (H := Unit) Tryz.prog 3) b (n + 1) (D.put (.int .i64 t) (litI (c - 1))) ∧ Fr (fun k => k = b) w w' := by
  have hlt := cell_lt hc
  have hlk := (atKey_litI ho ht hat).1
  have hw1 : (Lit.int .i64 (c - 1)).wf = true := by
    have := wrap64_wf (c - 1)
    rwa [show wrap64 (c - 1) = c - 1 by unfold wrap64; omega] at this
  obtain ⟨w1, hup, ho1, ht1⟩ := ho.store keyI Tryz.underlying37 (by unfold maxLen; omega) (key_at ht) (plainElem_int (H := Unit) Tryz.underlying3 hw1)
  have hlk1 := (atKey_litI ho1 ht (c := c - 1) (Go.Maps.atKey_put_same ho.isMap (keyL t) _ _)).1
  have hcx := ((fr_turned ht1).cell (p := ⟨fb, 2, none⟩) hlt hne).trans hc
  have HO := Lib.hid ho1
  have HF := Lib.hid (fr_turned ht1)
  have hz1 : (c == 0) = false := by rw [beq_eq_false_iff_ne]; omega
  have hz2 : (c - 1 == 0) = false := by rw [beq_eq_false_iff_ne]; omega
  clear ho ho1 ht1 hat
  go_enter Tryz.func18, Tryz.ntmps18
  go_wp2
  go_ret
  exact ⟨rfl, HO.out, HF.out⟩

/-- Unpin: of a pin that is the last of its number. -/
theorem fe_unpin_last (t : Int) (ht : (Lit.int .i64 t).wf = true) (h : Fe fb base l ws np D F w) (hn : np < 1000000) (hat : D.atKey (.int .i64 t) (litI 0) = litI 1) :
    Calls Tryz.prog 18 #[.pointer (some ⟨fb, 0, none⟩), .int .i64 t] w fun e w' => e = .returned (.bool true) ∧ ∃ F', Fe fb base l ws (np + 1) ((D.put (.int .i64 t) (litI 0)).del (.int .i64 t)) F' w' ∧ Step F F' w w' := by
  obtain ⟨v, vw, vp, h, rfl⟩ := h
  rcases h.pins with ⟨rfl, rfl⟩ | ⟨b, rfl, hb, ho⟩
  · exact absurd hat (fun e => by
      have e2 : (litI 0 : DU) = litI 1 := e
      injection e2 with e2
      injection e2 with _ e2
      cases e2)
  · refine (unpin_last t ht h.c2 ho hn (fun e => h.apart2 (.inl rfl) (by rw [e])) hat).mono ?_
    rintro e w' ⟨he, ho', hF⟩
    exact ⟨he, _, ⟨v, vw, _, h.pinned ho' hF, rfl⟩, hF.mono (fun i _ hi => .inr (.inr (.inr (by rw [show i = b from hi])))), fun k hk => .inl hk⟩
end
end Go.Proofs.YtedcpckocedcoaaGreat
