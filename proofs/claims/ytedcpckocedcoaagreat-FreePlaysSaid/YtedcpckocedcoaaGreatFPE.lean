/- FreePlays: Unpin and Release of both; Pin. -/
import Derived.Test.YtedcpckocedcoaaGreatFPD
namespace Go.Proofs.YtedcpckocedcoaaGreat
open Go.RowKit

/-- Unpin, of both. -/
theorem fp_unpin {w : World} {fb rb bb i : Nat} {O : Nat → Prop} {W : World} (t : Int) (ht : (Lit.int .i64 t).wf = true) (h : FPI w fb rb bb i O W) (hi : i < 150) :
    Calls Tryz.prog 18 #[.pointer (some ⟨fb, 0, none⟩), .int .i64 t] W fun e w' => ∃ ok, e = .returned (.bool ok) ∧ Fr (fun j => ¬ O j) W w' ∧
      Calls Tryz.prog 19 #[.pointer (some ⟨rb, 0, none⟩), .int .i64 t] w' fun e2 w'' => e2 = .returned (.bool ok) ∧ FPI w fb rb bb (i + 1) O w'' ∧ Fr (fun j => ¬ O j) W w'' := by
  obtain ⟨N, np, l, ws, D, P, Fq, lv, wv, pv, Fk, h, h1, h2, h3, h4, h5⟩ := h
  have key : ∀ (np' : Nat) (D' : DU) (F' : Nat → Prop) (w' : World), Fe fb w.heap.size l ws np' D' F' w' → Step Fq F' W w' → PinsR (P.erase t) D' → np' ≤ i + 1 →
      Fr (fun j => ¬ O j) W w' ∧ Calls Tryz.prog 19 #[.pointer (some ⟨rb, 0, none⟩), .int .i64 t] w' fun e2 w'' => e2 = .returned (.bool (decide (t ∈ P))) ∧ FPI w fb rb bb (i + 1) O w'' ∧ Fr (fun j => ¬ O j) W w'' := by
    intro np' D' F' w' hf hS hpin hnp
    have hA := h.toA.setf hf hS
    have hfr1 : Fr (fun j => ¬ O j) W w' := hS.1.mono (fun i _ hi hO => (h5 i hO).2.1 hi)
    refine ⟨hfr1, (rf_unpin rb _ lv wv pv (CL.srt l) ws P t w' hA.r (by omega)).mono ?_⟩
    rintro e w'' ⟨pv', rfl, hr, hF, hnew⟩
    have hsub : ∀ j, rfF rb lv wv pv' j → rfF rb lv wv pv j ∨ w'.heap.size ≤ j := by
      rintro j (e | e | e | e)
      · exact .inl (.inl e)
      · exact .inl (.inr (.inl e))
      · exact .inl (.inr (.inr (.inl e)))
      · rcases hnew j e with h9 | h9
        · exact .inl (.inr (.inr (.inr h9)))
        · exact .inr h9
    have hB := hA.setr hr hF hsub
    have hs1 := hS.1.size
    have hel := List.length_erase_le (a := t) (l := P)
    refine ⟨rfl, ⟨N, np', l, ws, D', P.erase t, F', lv, wv, pv', Fk, hB.toW hpin (erase_srt h.ps t), h1, hnp, by omega, by omega, fun j hj => ?_⟩, Fr.trans hfr1 hF (fun i hi _ hO => (h5 i hO).2.2.1 (.inl hi))⟩
    obtain ⟨a, b, c, d⟩ := h5 j hj
    refine ⟨Nat.lt_of_lt_of_le a (Nat.le_trans hs1 hF.size), fun e => ?_, fun e => ?_, d⟩
    · rcases hS.2 j e with e2 | e2
      · exact b e2
      · omega
    · rcases hsub j e with e2 | e2
      · exact c e2
      · omega
  by_cases hm : t ∈ P
  · refine (fe_unpin_r t ht h.f h.pins (by omega) (by omega) hm).mono ?_
    rintro e w' ⟨rfl, D', F', hpin, hf, hS⟩
    obtain ⟨k1, k2⟩ := key _ D' F' w' hf hS hpin (by omega)
    rw [decide_eq_true hm] at k2
    exact ⟨true, rfl, k1, k2⟩
  · have hat : D.atKey (.int .i64 t) (litI 0) = litI 0 := by
      rw [h.pins.cnt t, List.count_eq_zero.2 hm]
      rfl
    refine (fe_unpin_no t ht h.f hat).mono ?_
    rintro e w' ⟨rfl, rfl⟩
    obtain ⟨k1, k2⟩ := key np D Fq w' h.f (Step.refl _ _) (by rw [List.erase_of_not_mem hm]; exact h.pins) (by omega)
    rw [decide_eq_false hm] at k2
    exact ⟨false, rfl, k1, k2⟩

/-- Release, of both. -/
theorem fp_release {w : World} {fb rb bb i : Nat} {O : Nat → Prop} {W : World} (h : FPI w fb rb bb i O W) (hi : i < 150) :
    Calls Tryz.prog 20 #[.pointer (some ⟨fb, 0, none⟩)] W fun e w' => ∃ r, e = .returned (.int .i64 r) ∧ Fr (fun j => ¬ O j) W w' ∧
      Calls Tryz.prog 21 #[.pointer (some ⟨rb, 0, none⟩)] w' fun e2 w'' => e2 = .returned (.int .i64 r) ∧ FPI w fb rb bb (i + 1) O w'' ∧ Fr (fun j => ¬ O j) W w'' := by
  obtain ⟨N, np, l, ws, D, P, Fq, lv, wv, pv, Fk, h, h1, h2, h3, h4, h5⟩ := h
  have hls : (CL.srt l).length = l.length := (CL.srt_perm l).length_eq
  refine (fe_release h.f (by omega) (by omega)).mono ?_
  rintro e w' ⟨r, rfl, pinned, border, l', F', hmin, hr0, hf, hperm, hS⟩
  have hgo : goes pinned border = goP P := funext (goes_goP h.ps h.pins hmin)
  rw [hgo] at hr0 hf hperm
  have hA := h.toA.setf hf hS
  have hfr1 : Fr (fun j => ¬ O j) W w' := hS.1.mono (fun i _ hi hO => (h5 i hO).2.1 hi)
  refine ⟨r, rfl, hfr1, (rf_release rb _ lv wv pv (CL.srt l) ws P w' hA.r (by omega)).mono ?_⟩
  rintro e w'' ⟨lv', wv', rfl, hr, hF, hnl, hnw⟩
  have hsub : ∀ j, rfF rb lv' wv' pv j → rfF rb lv wv pv j ∨ w'.heap.size ≤ j := by
    rintro j (e | e | e | e)
    · exact .inl (.inl e)
    · rcases hnl j e with h9 | h9
      · exact .inl (.inr (.inl h9))
      · exact .inr h9
    · exact .inr (hnw j e)
    · exact .inl (.inr (.inr (.inr e)))
  have hl2 : relL (CL.srt l) P ws = CL.srt l' := by rw [relL_srt]; exact (srt_perm_eq hperm).symm
  rw [hl2] at hr
  have hB := hA.setr hr hF hsub
  have hs1 := hS.1.size
  have hfc := filter_count (goP P) ws
  have hpl := hperm.length_eq
  rw [List.length_append] at hpl
  have hpg : (pagesOf (ws.filter (goP P))).length = (ws.filter (goP P)).length := by simp [pagesOf]
  refine ⟨by rw [hr0], ⟨N, np, l', _, D, P, F', lv', wv', pv, Fk, hB.toW h.pins h.ps, h1, by omega, by omega, by omega, fun j hj => ?_⟩, Fr.trans hfr1 hF (fun i hi _ hO => (h5 i hO).2.2.1 (.inl hi))⟩
  obtain ⟨a, b, c, d⟩ := h5 j hj
  refine ⟨Nat.lt_of_lt_of_le a (Nat.le_trans hs1 hF.size), fun e => ?_, fun e => ?_, d⟩
  · rcases hS.2 j e with e2 | e2
    · exact b e2
    · omega
  · rcases hsub j e with e2 | e2
    · exact c e2
    · omega
end Go.Proofs.YtedcpckocedcoaaGreat
