/- The Book of texts: markedTexts. (Turned from the Book of ints by gen-texts.py.) -/
import Derived.Test.YtedcpckocedcoaaGreatQtP
import Derived.Test.YtedcpckocedcoaaGreatBkK
import Derived.Deep.RegionWith
namespace Go.Proofs.YtedcpckocedcoaaGreat
open Go.RowKit

set_option maxHeartbeats 4000000 in
set_option maxRecDepth 100000 in
theorem marked_texts (b1 b2 : Nat) (uv : Value) (N : Nat) (U : Nat → Value) (n : Nat → Nat) (w : World) (hr : w.ownsRow b1 68 1 uv N ((List.range N).map U)) (hk : ∀ i, i < N → w.ownsRow b2 9 1 (U i) (n i) (rowOf bcells (lstT (n i) (mkT i)))) (hN : N ≤ 250) (hn : ∀ i, i < N → n i ≤ 20000) :
    Calls Tryz.prog 85 #[uv] w fun e w' => e = .returned (.bool true) ∧ Below w.heap.size w w' := by
  have HW := Lib.hid hr
  have HK := Lib.hid hk
  have HN := Lib.hid hn
  obtain ⟨ip, ic, hiv⟩ := owns_form hr
  subst hiv
  clear hr hk hn
  go_enter Tryz.func85, Tryz.ntmps85
  go_wp2
  go_loopw [3] (fun iv wr => ∃ i : Nat, i ≤ N ∧ iv = .int .i64 i ∧ Hid (Below w.heap.size w wr)) (fun iv _ => N - (intOf iv).toNat)
  case atStart => exact ⟨0, Nat.zero_le _, rfl, Lib.hid (Below.refl _ _)⟩
  case round =>
    obtain ⟨i, hi, rfl, HB⟩ := hrel
    by_cases hlt : i < N
    · have hltI : (i : Int) < (N : Int) := by omega
      obtain ⟨g, c, e1, d2⟩ := row_at ((Fr.of_all (S := fun _ => False) HB.out).owns HW.out (fun _ _ h => h)) hlt
      injection e1 with e1 _ e3
      subst e1 e3
      obtain ⟨p1, c1, hv1⟩ := owns_form (HK.out i hlt)
      have hrd1 : RdT wr wr.heap.size p1 (n i) (lstT (n i) (mkT i)) := RdT.of_own (by rw [← hv1]; exact (Fr.of_all (S := fun _ => False) HB.out).owns (HK.out i hlt) (fun _ _ h => h)) (lstT_length _ _)
      rw [hv1] at d2
      have hni := HN.out i hlt
      have HRD := Lib.hid hrd1
      have HD2 := Lib.hid d2
      have l2 := cell_lt d2
      have HMK : Hid (∀ W, Calls Tryz.prog 125 #[.int .i64 i, .int .i64 0, .int .i64 (n i)] W fun e w' => ∃ v, e = .returned v ∧ w'.ownsRow W.heap.size 9 1 v (n i) (rowOf bcells (lstT (n i) (fun k => mkT i (0 + k)))) ∧ Below W.heap.size W w') := Lib.hid (fun W => mark_texts i 0 (n i) W (by omega) (by omega) (by omega))
      clear hv1 hrd1 hlt
      go_wp2
      go_region_with (first
        | (go_at_call 36; refine HSM.out.mono ?_; rintro e w2 ⟨b, m, rfl, hb, rfl⟩; obtain rfl : b = true := hb.2 HEQ.out; clear hb)
        | (go_at_call 125; refine (HMK.out _).mono ?_; rintro e w1 ⟨mv, rfl, hom, hb1⟩; obtain ⟨mp, mc, hmv⟩ := owns_form hom; subst hmv; have HB1 : Hid (Below wr.heap.size wr w1) := Lib.hid (((Below.refl _ wr).drew).trans hb1); have d2' : w1.cell? ⟨g, i, none⟩ = some (.slice p1 (n i) c1) := (HB1.out.cell (p := ⟨g, i, none⟩) (cell_lt HD2.out)).trans HD2.out; have HSM := Lib.hid (same_texts p1 mp (n i) c1 (n i) mc _ _ w1 _ _ (HRD.out.below HB1.out) (RdT.of_own hom (lstT_length _ _)) (by omega) (by omega)); have HEQ : Hid (lstT (n i) (mkT i) = lstT (n i) (fun k => mkT i (0 + k))) := Lib.hid (lstT_congr (fun k _ => by rw [Nat.zero_add])); clear hom hb1))
      all_goals
        have HB2 : Hid (Below w.heap.size w (w1.drewN m)) := Lib.hid (below_drewN (HB.out.trans (HB1.out.mono HB.out.size)) m)
        go_wp2
        go_roundw
        case rel => exact ⟨i + 1, by omega, by simp, HB2⟩
        case measure => simp [intOf]; omega
    · obtain rfl : i = N := by omega
      have hltI : ¬ (i : Int) < (i : Int) := by omega
      go_wp2
      go_ret
      exact ⟨rfl, HB.out⟩
end Go.Proofs.YtedcpckocedcoaaGreat
