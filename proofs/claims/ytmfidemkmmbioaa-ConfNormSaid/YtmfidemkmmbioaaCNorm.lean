/- arboretumlaw17.ConfNorm returns true, whatever its arguments. -/
import Derived.Test.YtmfidemkmmbioaaCAlive
import Derived.Test.YtmfidemkmmbioaaSame
namespace Go.Proofs.Ytmfidemkmmbioaa
open Go.RowKit

theorem up_el {l : List Int} (h : CL.Up l) {i : Nat} (h0 : 0 < i) (hi : i < l.length) : HL.el l (i - 1) < HL.el l i := by
  have a1 := HL.el_eq l i hi
  have a2 := HL.el_eq l (i - 1) (by omega)
  rw [List.getElem?_eq_getElem hi] at a1
  rw [List.getElem?_eq_getElem (by omega)] at a2
  injection a1 with a1
  injection a2 with a2
  rw [← a1, ← a2]
  exact List.pairwise_iff_getElem.1 h (i - 1) i (by omega) hi (by omega)

set_option maxHeartbeats 2000000 in
set_option maxRecDepth 100000 in
theorem confNorm_walk (p : Option Addr) (n c : Nat) (zs : List Int) (x : Int) (w : World) (h : RdI w w.heap.size p n zs) :
    Calls Try.prog 5 #[.slice p n c, .int .i64 x] w fun e w' => e = .returned (.bool true) ∧ Below w.heap.size w w' := by
  by_cases hn : 60 < n
  · clear h
    go_enter Try.func5, Try.ntmps5
    go_wp2_with (go_at_call 8; refine (alive_true _).mono ?_; rintro e w' ⟨rfl, hb⟩)
    go_ret
    exact ⟨rfl, hb⟩
  · obtain ⟨N, hN⟩ : ∃ N, (CL.nrm zs).length = N := ⟨_, rfl⟩
    have hNn : N ≤ n := by have := CL.nrm_length zs; have := h.1; omega
    have HZ := Lib.hid h
    have HNN := Lib.hid hN
    clear h hN
    have HNO := Lib.hid (norm_ints p n c zs w HZ.out (by omega) N HNN.out)
    go_enter Try.func5, Try.ntmps5
    go_wp2_with fail
    refine HNO.out.mono ?_
    rintro e w1 ⟨q, d, rfl, ho, hb⟩
    have HA := Lib.hid (RdI.of_own ho HNN.out)
    have HB := Lib.hid hb
    clear ho hb HNO
    go_wp2
    go_loopw [6] (fun iv wr => ∃ i : Nat, 1 ≤ i ∧ i ≤ N + 1 ∧ iv = .int .i64 i ∧ ∃ m, wr = w1.drewN m) (fun iv _ => N + 1 - (intOf iv).toNat)
    case atStart => exact ⟨1, by omega, by omega, rfl, 0, rfl⟩
    case round =>
      obtain ⟨i, hi1, hi, rfl, m, rfl⟩ := hrel
      by_cases hlt : i < N
      · obtain ⟨b, o, hp, _, hcs⟩ := HA.out.2 (by omega)
        have hc1 := hcs i hlt
        have hc2 := hcs (i - 1) (by omega)
        clear hcs
        subst hp
        have hlt2 := up_el (CL.nrm_up zs) (i := i) (by omega) (by rw [HNN.out]; exact hlt)
        have hbl : decide (HL.el (CL.nrm zs) i ≤ HL.el (CL.nrm zs) (i - 1)) = false := by simp; exact hlt2
        have e1 : IntKind.i64.wrap ((i : Int) - 1) = ((i - 1 : Nat) : Int) := by rw [IntWalk.i64_in _ ⟨by omega, by omega⟩]; omega
        clear hlt2
        generalize HL.el (CL.nrm zs) i = x1 at *
        generalize HL.el (CL.nrm zs) (i - 1) = x2 at *
        go_wp2
        go_quiet (fail)
        go_wp2
        go_roundw
        case rel => exact ⟨i + 1, by omega, by omega, by go_num, _, rfl⟩
        case measure => simp [intOf]; omega
      · go_wp2
        go_loop [7] (fun iv => ∃ i : Nat, i ≤ n ∧ iv = .int .i64 i) (fun iv => n - (intOf iv).toNat)
        case atStart => exact ⟨0, by omega, rfl⟩
        case round =>
          obtain ⟨j, hj, rfl⟩ := hrel
          have hbd : Below w1.heap.size w1 (w1.drewN m) := ((Fr.refl (fun _ => False) _).drewN _).below (Nat.le_refl _) (fun _ h => h.elim)
          have hbw : Below w.heap.size w (w1.drewN m) := HB.out.trans (hbd.mono HB.out.size)
          have HAD := Lib.hid (HA.out.below hbd)
          have HZD := Lib.hid (HZ.out.below hbw)
          have HBW := Lib.hid hbw
          clear hbd hbw
          by_cases hjn : j < n
          · obtain ⟨b, o, hp, _, hcs⟩ := HZD.out.2 (by omega)
            have hc1 := hcs j hjn
            clear hcs
            subst hp
            have hin : HL.el zs j ∈ CL.nrm zs := CL.nrm_mem.2 (el_mem (by rw [HZ.out.1]; exact hjn))
            have HH := Lib.hid (has_ints q N d _ (CL.nrm zs) (HL.el zs j) (w1.drewN m) HAD.out (by omega))
            have hdt : decide (HL.el zs j ∈ CL.nrm zs) = true := by simpa using hin
            rw [hdt] at HH
            clear hin hdt
            generalize HL.el zs j = y at *
            go_wp2_with fail
            refine HH.out.mono ?_
            rintro e w2 ⟨rfl, rfl⟩
            go_wp2
            go_round
            case rel => exact ⟨j + 1, by omega, by go_num⟩
            case measure => simp [intOf]; omega
          · go_wp2_with fail
            refine (alive_true _).mono ?_
            rintro e w3 ⟨rfl, hb3⟩
            have HA3 := Lib.hid ((HAD.out.below hb3).more hb3.size)
            have HZ3 := Lib.hid ((HZD.out.below (hb3.mono HBW.out.size)))
            have HB3 : Hid (Below w.heap.size w w3) := HBW.out.trans (hb3.mono HBW.out.size)
            clear hb3 HAD HZD HBW HA HB
            have HH1 := Lib.hid (has_ints q N d _ (CL.nrm zs) x w3 HA3.out (by omega))
            have HH2 := Lib.hid (has_ints p n c _ zs x w3 HZ3.out (by omega))
            have hde : decide (x ∈ CL.nrm zs) = decide (x ∈ zs) := by rw [decide_eq_decide]; exact CL.nrm_mem
            rw [hde] at HH1
            clear hde
            generalize decide (x ∈ zs) = bb at *
            go_wp2_with fail
            refine HH1.out.mono ?_
            rintro e w4 ⟨rfl, rfl⟩
            go_wp2_with fail
            refine HH2.out.mono ?_
            rintro e w5 ⟨rfl, rfl⟩
            have hnn : CL.nrm (CL.nrm zs) = CL.nrm zs := CL.nrm_of_up (CL.nrm_up zs)
            have HNO := Lib.hid (norm_ints q N d (CL.nrm zs) w3 HA3.out (by omega) N (by rw [hnn]; exact HNN.out))
            rw [hnn] at HNO
            clear hnn
            have hbb : (bb == bb) = true := by simp
            go_wp2_with fail
            refine HNO.out.mono ?_
            rintro e w6 ⟨q6, d6, rfl, ho6, hb6⟩
            have HA6 := Lib.hid (RdI.of_own ho6 HNN.out)
            have HA7 := Lib.hid (HA3.out.below hb6)
            have HB6 : Hid (Below w.heap.size w w6) := HB3.out.trans (hb6.mono HB3.out.size)
            clear ho6 hb6 HNO
            have HSM := Lib.hid (same_ints q6 q N d6 N d _ _ w6 _ _ HA6.out HA7.out (by omega) (by omega))
            go_wp2_with fail
            refine HSM.out.mono ?_
            rintro e w7 ⟨b7, m7, rfl, hb7, hw7⟩
            obtain rfl : b7 = true := hb7.2 rfl
            have HB7 : Hid (Below w.heap.size w w7) := Lib.hid (by rw [hw7]; exact HB6.out.trans (((Fr.refl (fun _ => False) _).drewN _).below HB6.out.size (fun _ h => h.elim)))
            clear hb7 hw7
            have hle : decide ((N : Int) ≤ (n : Int)) = true := by simp; omega
            go_wp2
            go_ret
            exact ⟨by simp, HB7.out⟩
end Go.Proofs.Ytmfidemkmmbioaa
