/- The Book of texts: what it keeps; stillTexts. (Turned from the Book of ints by gen-texts.py.) -/
import Derived.Test.YtedcpckocedcoaaGreatQtM
import Derived.Test.YtedcpckocedcoaaGreatBkI
namespace Go.Proofs.YtedcpckocedcoaaGreat
open Go.RowKit

/-- N lists that are kept: their slices V, their lengths n, what stands in them Z. -/
structure BkT (w : World) (bb base : Nat) (iv : Value) (N : Nat) (V : Nat → Value) (n : Nat → Nat) (Z : Nat → Nat → ByteArray) : Prop where
  c2 : w.cell? ⟨bb, 0, none⟩ = some iv
  ri : w.ownsRow base 68 1 iv N ((List.range N).map V)
  kk : ∀ i, i < N → w.ownsRow base 9 1 (V i) (n i) (rowOf bcells (lstT (n i) (Z i)))
  kd : ∀ i j g, i < N → j < N → i ≠ j → (V i).ownBlock = some g → (V j).ownBlock ≠ some g
  ib : iv.ownBlock ≠ some bb
  kb : ∀ i, i < N → (V i).ownBlock ≠ some bb

section
variable {w w' : World} {bb base : Nat} {iv : Value} {N : Nat} {V : Nat → Value} {n : Nat → Nat} {Z : Nat → Nat → ByteArray}

theorem BkT.keep (h : BkT w bb base iv N V n Z) {S : Nat → Prop} (hF : Fr S w w') (hS : ∀ b, bkF bb iv N V b → ¬ S b) : BkT w' bb base iv N V n Z where
  c2 := (hF.cell (p := ⟨bb, 0, none⟩) (cell_lt h.c2) (hS _ (.inl rfl))).trans h.c2
  ri := hF.owns h.ri (fun _ hg => hS _ (.inr (.inl hg)))
  kk := fun i hi => hF.owns (h.kk i hi) (fun _ hg => hS _ (.inr (.inr ⟨i, hi, hg⟩)))
  kd := h.kd
  ib := h.ib
  kb := h.kb

theorem BkT.lt (h : BkT w bb base iv N V n Z) : ∀ b, bkF bb iv N V b → b < w.heap.size := by
  rintro b (rfl | hb | ⟨i, hi, hb⟩)
  · exact cell_lt h.c2
  · exact (h.ri.lt _ hb).2
  · exact ((h.kk i hi).lt _ hb).2

theorem BkT.below (h : BkT w bb base iv N V n Z) (hF : Below w.heap.size w w') : BkT w' bb base iv N V n Z :=
  h.keep (S := fun _ => False) (Fr.of_all hF) (fun _ _ h => h)

end

set_option maxHeartbeats 2000000 in
set_option maxRecDepth 100000 in
theorem still_texts (bb base : Nat) (iv wv : Value) (N : Nat) (V W : Nat → Value) (n : Nat → Nat) (Z : Nat → Nat → ByteArray) (w : World) (h : BkT w bb base iv N V n Z) (h3 : w.cell? ⟨bb, 1, none⟩ = some wv)
    (hw : w.ownsRow base 68 1 wv N ((List.range N).map W)) (hk : ∀ i, i < N → w.ownsRow base 9 1 (W i) (n i) (rowOf bcells (lstT (n i) (Z i)))) (hN : N ≤ 250) (hn : ∀ i, i < N → n i ≤ 10000) :
    Calls Tryz.prog 52 #[.pointer (some ⟨bb, 0, none⟩)] w fun e w' => e = .returned (.bool true) ∧ Below w.heap.size w w' := by
  have H := Lib.hid h
  have HW := Lib.hid hw
  have HK := Lib.hid hk
  have HN := Lib.hid hn
  have C2 := Lib.hid h.c2
  have C3 := Lib.hid h3
  obtain ⟨ip, ic, hiv⟩ := owns_form h.ri
  obtain ⟨wp', wc, hwv⟩ := owns_form hw
  subst hiv hwv
  clear h hw hk hn h3
  go_enter Tryz.func52, Tryz.ntmps52
  go_wp2
  go_loopw [3] (fun iv wr => ∃ i : Nat, i ≤ N ∧ iv = .int .i64 i ∧ Hid (Below w.heap.size w wr)) (fun iv _ => N - (intOf iv).toNat)
  case atStart => exact ⟨0, Nat.zero_le _, rfl, Lib.hid (Below.refl _ _)⟩
  case round =>
    obtain ⟨i, hi, rfl, HB⟩ := hrel
    have c2 := (HB.out.cell (p := ⟨bb, 0, none⟩) (cell_lt C2.out)).trans C2.out
    by_cases hlt : i < N
    · have hltI : (i : Int) < (N : Int) := by omega
      have HR := Lib.hid (H.out.below HB.out)
      obtain ⟨g, c, e1, d2⟩ := row_at HR.out.ri hlt
      injection e1 with e1 _ e3
      subst e1 e3
      obtain ⟨g', c', e1, d3⟩ := row_at ((Fr.of_all (S := fun _ => False) HB.out).owns HW.out (fun _ _ h => h)) hlt
      injection e1 with e1 _ e3
      subst e1 e3
      have c3 := (HB.out.cell (p := ⟨bb, 1, none⟩) (cell_lt C3.out)).trans C3.out
      obtain ⟨p1, c1, hv1⟩ := owns_form (HR.out.kk i hlt)
      obtain ⟨p4, c4, hv4⟩ := owns_form (HK.out i hlt)
      have hrd1 : RdT wr wr.heap.size p1 (n i) (lstT (n i) (Z i)) := RdT.of_own (by rw [← hv1]; exact HR.out.kk i hlt) (lstT_length _ _)
      have hrd4 : RdT wr wr.heap.size p4 (n i) (lstT (n i) (Z i)) := RdT.of_own (by rw [← hv4]; exact (Fr.of_all (S := fun _ => False) HB.out).owns (HK.out i hlt) (fun _ _ h => h)) (lstT_length _ _)
      rw [hv1] at d2
      rw [hv4] at d3
      have hni := HN.out i hlt
      have HS : Hid (∀ q : Later wr, Calls Tryz.prog 36 #[.slice p1 (n i) c1, .slice p4 (n i) c4] q.1 fun e w' => e = .returned (.bool true) ∧ Below q.1.heap.size q.1 w') := Lib.hid (fun q => by
        refine (same_texts p1 p4 (n i) c1 (n i) c4 _ _ q.1 _ _ (hrd1.below q.2) (hrd4.below q.2) (by omega) (by omega)).mono ?_
        rintro e w' ⟨b, m, rfl, hb, rfl⟩
        obtain rfl : b = true := hb.2 rfl
        exact ⟨rfl, (Fr.refl (fun _ => False) q.1).drewN m |>.below (Nat.le_refl _) (fun _ h => h.elim)⟩)
      have q2 : ∀ q : Later wr, q.1.cell? ⟨bb, 0, none⟩ = some (.slice (some ⟨g, 0, none⟩) N ic) := fun q => (q.2.cell (p := ⟨bb, 0, none⟩) (cell_lt c2)).trans c2
      have q3 : ∀ q : Later wr, q.1.cell? ⟨bb, 1, none⟩ = some (.slice (some ⟨g', 0, none⟩) N wc) := fun q => (q.2.cell (p := ⟨bb, 1, none⟩) (cell_lt c3)).trans c3
      have r2 : ∀ q : Later wr, q.1.cell? ⟨g, i, none⟩ = some (.slice p1 (n i) c1) := fun q => (q.2.cell (p := ⟨g, i, none⟩) (cell_lt d2)).trans d2
      have r3 : ∀ q : Later wr, q.1.cell? ⟨g', i, none⟩ = some (.slice p4 (n i) c4) := fun q => (q.2.cell (p := ⟨g', i, none⟩) (cell_lt d3)).trans d3
      clear hv1 hv4 hrd1 hrd4 HR c3 d2 d3 hni hlt
      go_wp2
      clear c2
      refine wp_region_later (by kernel_rfl) (by kernel_rfl) ?_
      repeat (go_big_quiet_step (first | (go_at_call 36; exact Calls.later_of (HS.out _))))
      refine wpQuiet_nil ?_
      intro W1 hw'
      obtain ⟨⟨wq, hq⟩, hw''⟩ := hw'
      subst hw''
      have HB1 := Lib.hid (HB.out.trans (hq.mono HB.out.size))
      clear q2 q3 r2 r3 HS hq
      go_wp2
      go_roundw
      case rel => exact ⟨i + 1, by omega, by simp, HB1⟩
      case measure => simp [intOf]; omega
    · obtain rfl : i = N := by omega
      have hltI : ¬ (i : Int) < (i : Int) := by omega
      go_wp2
      go_ret
      exact ⟨rfl, HB.out⟩
end Go.Proofs.YtedcpckocedcoaaGreat
