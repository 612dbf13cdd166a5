/- The Book of ints: putInts. -/
import Derived.Test.YtedcpckocedcoaaGreatBkI
namespace Go.Proofs.YtedcpckocedcoaaGreat
open Go.RowKit

theorem rowOf_setI (zs : List Int) (j : Nat) (x : Int) : (rowOf ncells zs).set j (.int .i64 x) = rowOf ncells (zs.set j x) := by
  rw [rowOf_mapI, rowOf_mapI, List.map_set]

section
variable {w w' : World} {bb base : Nat} {iv : Value} {N : Nat} {V : Nat → Value} {n : Nat → Nat} {Z Z' : Nat → Nat → Int}

theorem BkI.congr (h : BkI w bb base iv N V n Z) (he : ∀ i k, i < N → k < n i → Z i k = Z' i k) : BkI w bb base iv N V n Z' where
  c2 := h.c2
  ri := h.ri
  kk := fun i hi => by rw [← lst_congr (fun k hk => he i k hi hk)]; exact h.kk i hi
  kd := h.kd
  ib := h.ib
  kb := h.kb

theorem BkI.store (h : BkI w bb base iv N V n Z) {i g c j : Nat} (hi : i < N) (hV : V i = .slice (some ⟨g, 0, none⟩) (n i) c) (hj : j < n i) (x : Int) :
    BkI (w.setCell ⟨g, j, none⟩ (.int .i64 x)).drew bb base iv N V n (fun a k => if a = i ∧ k = j then x else Z a k) ∧ Fr (kkF N V) w (w.setCell ⟨g, j, none⟩ (.int .i64 x)).drew := by
  have ho := h.kk i hi
  have hob : (V i).ownBlock = some g := by rw [hV]; rfl
  have hfr : Fr (fun b => b = g) w (w.setCell ⟨g, j, none⟩ (.int .i64 x)).drew := ((Fr.refl (fun b => b = g) w).setCell (p := ⟨g, j, none⟩) (fun _ => rfl) _).drew
  refine ⟨⟨?_, ?_, ?_, h.kd, h.ib, h.kb⟩, hfr.mono (fun b _ hb => ⟨i, hi, by subst hb; exact hob⟩)⟩
  · exact (hfr.cell (p := ⟨bb, 2, none⟩) (cell_lt h.c2) (fun e => h.kb i hi (by have : bb = g := e; rw [this]; exact hob))).trans h.c2
  · exact hfr.owns h.ri (fun b hb e => owns_apart ho h.ri (by decide) hob (by have : b = g := e; rw [← this]; exact hb))
  · intro a ha
    by_cases e : a = i
    · subst e
      have h1 := ho
      rw [hV] at h1
      have h2 := (h1.stored j (.int .i64 x)).1
      rw [rowOf_setI, lst_set _ _ hj] at h2
      rw [hV]
      have e2 : lst (n a) (fun k => if a = a ∧ k = j then x else Z a k) = lst (n a) (fun k => if k = j then x else Z a k) := lst_congr (fun k _ => by simp)
      rw [e2]
      exact h2
    · have e2 : lst (n a) (fun k => if a = i ∧ k = j then x else Z a k) = lst (n a) (Z a) := lst_congr (fun k _ => by rw [if_neg (fun h => e h.1)])
      rw [e2]
      exact hfr.owns (h.kk a ha) (fun b hb eb => h.kd i a g hi ha (fun e' => e e'.symm) hob (by have : b = g := eb; rw [← this]; exact hb))
end

set_option maxHeartbeats 4000000 in
set_option maxRecDepth 100000 in
theorem put_ints (bb base : Nat) (iv : Value) (N : Nat) (V : Nat → Value) (n : Nat → Nat) (Z : Nat → Nat → Int) (w : World) (h : BkI w bb base iv N V n Z) (hN : N ≤ 250) (hn : ∀ i, i < N → n i ≤ 10000) :
    Calls Tryz.prog 66 #[.pointer (some ⟨bb, 0, none⟩)] w fun e w' => e = .returned (.tuple #[]) ∧ BkI w' bb base iv N V n mk ∧ Fr (kkF N V) w w' := by
  have H := Lib.hid h
  have HN := Lib.hid hn
  obtain ⟨ip, ic, hiv⟩ := owns_form h.ri
  subst hiv
  clear h hn
  go_enter Tryz.func66, Tryz.ntmps66
  go_wp2
  go_loopw [2] (fun v wr => ∃ i : Nat, i ≤ N ∧ v = .int .i64 i ∧ Hid (BkI wr bb base (.slice ip N ic) N V n (fun a k => if a < i then mk a k else Z a k)) ∧ Hid (Fr (kkF N V) w wr)) (fun v _ => N - (intOf v).toNat)
  case atStart => exact ⟨0, Nat.zero_le _, rfl, Lib.hid (H.out.congr (fun i k _ _ => by simp)), Lib.hid (Fr.refl _ _)⟩
  case round =>
    obtain ⟨i, hi, rfl, HB, HF⟩ := hrel
    have c2 := HB.out.c2
    by_cases hlt : i < N
    · have hltI : (i : Int) < (N : Int) := by omega
      obtain ⟨g, c, e1, d2⟩ := row_at HB.out.ri hlt
      injection e1 with e1 _ e3
      subst e1 e3
      obtain ⟨p1, c1, hv1⟩ := owns_form (HB.out.kk i hlt)
      have HV1 := Lib.hid hv1
      rw [hv1] at d2
      have hni := HN.out i hlt
      have HM := Lib.hid (mark_ints i 0 (n i) wr (by omega) (by omega) (by omega))
      have lg := cell_lt d2
      have lb := cell_lt c2
      clear hv1
      go_wp2_with fail
      refine HM.out.mono ?_
      rintro e w1 ⟨mv, rfl, hom, hb1⟩
      obtain ⟨mp, mc, hmv⟩ := owns_form hom
      subst hmv
      obtain ⟨h0, hh0⟩ : ∃ h0, h0 = wr.heap.size := ⟨_, rfl⟩
      have HLT : Hid (∀ b, (V i).ownBlock = some b → b < h0) := Lib.hid (fun b hb => by rw [hh0]; exact ((HB.out.kk i hlt).lt b hb).2)
      rw [← hh0] at hom
      have HOM := Lib.hid hom
      clear hh0
      have HB1 := Lib.hid (HB.out.below hb1)
      have HF1 : Hid (Fr (kkF N V) w w1) := Lib.hid (Fr.trans HF.out (Fr.of_all (S := kkF N V) hb1) (fun _ h _ => h))
      have HSZ := Lib.hid hb1.size
      clear hom hb1 c2 d2 HM
      go_wp2
      go_loopw [4] (fun v wj => ∃ j : Nat, j ≤ n i ∧ v = .int .i64 j ∧ Hid (BkI wj bb base (.slice (some ⟨g, 0, none⟩) N ic) N V n (fun a k => if a < i ∨ a = i ∧ k < j then mk a k else Z a k)) ∧ Hid (Fr (kkF N V) w wj) ∧ Hid (wj.ownsRow h0 3 1 (.slice mp (n i) mc) (n i) (rowOf ncells (lst (n i) (fun k => mk i (0 + k)))))) (fun v _ => n i - (intOf v).toNat)
      case atStart => exact ⟨0, Nat.zero_le _, rfl, Lib.hid (HB1.out.congr (fun a k _ _ => by
        by_cases e : a < i
        · rw [if_pos e, if_pos (.inl e)]
        · rw [if_neg e, if_neg (by omega)])), HF1, HOM⟩
      case round =>
        obtain ⟨j, hj, rfl, HJ, HFJ, HOJ⟩ := hrel
        by_cases hlt2 : j < n i
        · have hltJ : (j : Int) < ((n i : Nat) : Int) := by omega
          have hkj := HJ.out.kk i hlt
          have hv1 := HV1.out
          obtain ⟨gi, ci, hvi, _, _, _⟩ := owns_len hkj (by omega)
          have HVI := Lib.hid hvi
          rw [hvi] at hv1 hkj
          injection hv1 with e1 _ e3
          subst e1 e3
          have c2 := HJ.out.c2
          obtain ⟨g2, c2', e1, d2⟩ := row_at HJ.out.ri hlt
          injection e1 with e1 _ e3
          injection e1 with e1
          injection e1 with e1 _ _
          subst e1 e3
          rw [hvi] at d2
          obtain ⟨gm, cm, hvm, _, _, _⟩ := owns_len HOJ.out (by omega)
          injection hvm with e1 _ e3
          subst e1 e3
          have d3 : wr.cell? ⟨gm, j, none⟩ = some (.int .i64 (mk i (0 + j))) := by
            rw [HOJ.out.cellAt j (by omega), rowOf_mapI, List.getElem?_map]
            have e9 := HL.el_eq (lst (n i) (fun k => mk i (0 + k))) j (by rw [lst_length]; exact hlt2)
            rw [lst_el _ hlt2] at e9
            rw [e9]
            rfl
          have d4 : ∃ u, wr.cell? ⟨gi, j, none⟩ = some u := by
            rw [hkj.cellAt j (by omega)]
            exact ⟨_, List.getElem?_eq_getElem (by rw [rowOf_length ncells ncells_length, lst_length]; omega)⟩
          obtain ⟨u4, d4⟩ := d4
          have d5 : wr.frozen? ⟨gi, j, none⟩ = false := hkj.frozenAt j
          have HST := Lib.hid (HJ.out.store hlt HVI.out hlt2 (mk i (0 + j)))
          generalize hx : mk i (0 + j) = x at d3 HST
          have HX := Lib.hid hx
          clear hx hkj hvi hlt2
          go_wp2
          go_region
          have HJ2 : Hid (BkI (wr.setCell ⟨gi, j, none⟩ (.int .i64 x)).drew bb base (.slice (some ⟨g, 0, none⟩) N ic) N V n (fun a k => if a < i ∨ a = i ∧ k < j + 1 then mk a k else Z a k)) := Lib.hid (HST.out.1.congr (fun a k _ _ => by
            have hx := HX.out
            by_cases e : a = i ∧ k = j
            · rw [if_pos e, if_pos (.inr ⟨e.1, by omega⟩), e.1, e.2, ← hx, Nat.zero_add]
            · rw [if_neg e]
              by_cases e2 : a < i ∨ a = i ∧ k < j
              · rw [if_pos e2, if_pos (by omega)]
              · rw [if_neg e2, if_neg (by omega)]))
          have HF2 : Hid (Fr (kkF N V) w (wr.setCell ⟨gi, j, none⟩ (.int .i64 x)).drew) := Lib.hid (Fr.trans HFJ.out HST.out.2 (fun _ h _ => h))
          have HO2 : Hid ((wr.setCell ⟨gi, j, none⟩ (.int .i64 x)).drew.ownsRow h0 3 1 (.slice (some ⟨gm, 0, none⟩) (n i) mc) (n i) (rowOf ncells (lst (n i) (fun k => mk i (0 + k))))) := Lib.hid (by
            have hlo := (HOJ.out.lt gm rfl).1
            have hli := HLT.out gi (by rw [HVI.out]; rfl)
            exact ((Fr.refl (fun b => b = gi) wr).setCell (p := ⟨gi, j, none⟩) (fun _ => rfl) _).drew.owns HOJ.out (fun b hb e => by
              simp only [Value.ownBlock, Option.some.injEq] at hb
              have e : b = gi := e
              omega))
          clear d2 d3 d4 d5 c2 HST
          go_wp2
          go_roundw
          case rel => exact ⟨j + 1, by omega, by simp, HJ2, HF2, HO2⟩
          case measure => simp [intOf]; omega
        · obtain hjn : j = n i := by omega
          have HE : Hid (BkI wr bb base (.slice (some ⟨g, 0, none⟩) N ic) N V n (fun a k => if a < i + 1 then mk a k else Z a k)) := Lib.hid (HJ.out.congr (fun a k _ hk => by
            by_cases e : a < i
            · rw [if_pos (.inl e), if_pos (by omega)]
            · by_cases e2 : a = i
              · rw [if_pos (.inr ⟨e2, by rw [e2] at hk; omega⟩), if_pos (by omega)]
              · rw [if_neg (by omega), if_neg (by omega)]))
          have hltJ : ¬ (j : Int) < ((n i : Nat) : Int) := by omega
          go_wp2
          go_roundw
          case rel => exact ⟨i + 1, by omega, by simp, HE, HFJ⟩
          case measure => simp [intOf]; omega
    · obtain rfl : i = N := by omega
      have hltI : ¬ (i : Int) < (i : Int) := by omega
      have HE : Hid (BkI wr bb base (.slice ip i ic) i V n mk) := Lib.hid (HB.out.congr (fun a k ha _ => by rw [if_pos ha]))
      go_wp2
      go_end0
      exact ⟨rfl, HE.out, HF.out⟩
end Go.Proofs.YtedcpckocedcoaaGreat
