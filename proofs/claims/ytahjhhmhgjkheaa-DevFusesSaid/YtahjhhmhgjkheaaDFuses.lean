/- arboretumlaw2.DevFuses: the walk. -/
import Derived.Test.YtahjhhmhgjkheaaDAlive
namespace Go.Proofs.Ytahjhhmhgjkheaa
open Go.RowKit Go.Conc

set_option maxRecDepth 100000 in
theorem devFuses_out (n : Int) (w : World) (h : n < 0 ∨ 30 < n) : Calls Try.prog 6 #[.int .i64 n] w fun e w' => e = .returned (.bool true) ∧ Below w.heap.size w w' := by
  rcases Int.lt_or_le n 0 with h1 | h1
  · clear h
    go_enter Try.func6, Try.ntmps6
    go_wp2_with fail
    refine (alive_true _).mono ?_
    rintro e w3 ⟨rfl, hb3⟩
    have HB := Lib.hid hb3
    clear hb3
    go_wp2
    go_ret
    exact ⟨rfl, HB.out⟩
  · have h2 : 30 < n := by omega
    clear h
    go_enter Try.func6, Try.ntmps6
    go_wp2_with fail
    refine (alive_true _).mono ?_
    rintro e w3 ⟨rfl, hb3⟩
    have HB := Lib.hid hb3
    clear hb3
    go_wp2
    go_ret
    exact ⟨rfl, HB.out⟩

/-- Between two rounds: i writes have been asked. -/
def FuseRel (db n : Nat) (w : World) (i done : Nat) (wr : World) : Prop :=
  ∃ on fu lf sy nw ws F, Dv db db 2 on fu lf sy nw ws F wr ∧ nw.length = 1 ∧ ws.length = i ∧ Below db w wr ∧
    ((on = true ∧ fu = true ∧ lf = n - i ∧ i ≤ n ∧ done = i) ∨ (on = false ∧ i = n + 1 ∧ done = n))

set_option maxHeartbeats 4000000 in
set_option maxRecDepth 100000 in
theorem devFuses_in (n : Nat) (w : World) (h : n ≤ 30) : Calls Try.prog 6 #[.int .i64 n] w fun e w' => e = .returned (.bool true) ∧ Below w.heap.size w w' := by
  have HN := Lib.hid (dv_new 2 w (by omega) (by omega))
  go_enter Try.func6, Try.ntmps6
  go_wp2_with fail
  refine HN.out.mono ?_
  rintro e w1 ⟨rfl, hD, hb1⟩
  have HB1 := Lib.hid hb1
  have HZ := Lib.hid hD.bsz
  have HG : Hid (Calls Try.prog 11 #[.pointer (some ⟨w.heap.size, 0, none⟩), .int .i64 1] w1 fun e w' => e = .returned (.int .i64 0) ∧ ∃ F', Dv w.heap.size w.heap.size 2 true false 0 [page0] [page0] [] F' w' ∧ Step (fun k => k = w.heap.size) F' w1 w') := Lib.hid (dv_grow 1 hD (by simp) (by omega) (by omega))
  clear hb1 hD HN
  go_wp2_with fail
  refine HG.out.mono ?_
  rintro e w2 ⟨rfl, F2, hD2, hS2⟩
  have HF := Lib.hid (dv_fuse (n : Int) hD2)
  have HB2 : Hid (Below w.heap.size w w2) := Lib.hid (HB1.out.trans (hS2.1.below HZ.out (fun i hi => by have : i = w.heap.size := hi; omega)))
  have HH := Lib.hid hD2.here
  have HG2 := Lib.hid hD2.ge
  have HZ2 := Lib.hid hD2.bsz
  clear hD2 hS2 HG HB1 HZ
  go_wp2_with fail
  refine HF.out.mono ?_
  rintro e w3 ⟨rfl, hD3, hF3⟩
  have HST : Hid (FuseRel w.heap.size n w 0 0 w3) := ⟨true, _, _, _, _, _, _, hD3, rfl, rfl, HB2.out.trans (hF3.below HZ2.out (fun i hi => by have : i = w.heap.size := hi; omega)), .inl ⟨rfl, by simp, by simp, by omega, rfl⟩⟩
  clear hD3 hF3 HF HB2 HH HG2 HZ2
  go_wp2
  go_loopw [5, 6] (fun dv iv wr => ∃ i done : Nat, dv = .int .i64 done ∧ iv = .int .i64 i ∧ FuseRel w.heap.size n w i done wr) (fun _ iv _ => 40 - (intOf iv).toNat)
  case atStart => exact ⟨0, 0, rfl, rfl, HST.out⟩
  case round =>
    clear HST
    obtain ⟨i, dn, rfl, rfl, on, fu, lf, sy, nw, ws, F, hD, hnw, hws, hB, hc⟩ := hrel
    have HD := Lib.hid hD
    have HNW := Lib.hid hnw
    have HWS := Lib.hid hws
    have HB := Lib.hid hB
    have HO := Lib.hid (dv_on hD)
    have hwr := hB.size
    have HFG := Lib.hid hD.ge
    clear hD hnw hws hB
    rcases hc with ⟨rfl, rfl, hlf, hin, hdi⟩ | ⟨rfl, hin, hdi⟩
    · obtain rfl : i = dn := hdi.symm
      have HFI : Hid (∀ w, Calls Try.prog 13 #[.int .u8 i, .int .i64 0] w fun e w' => e = .returned (.string (fill i 0)) ∧ Below w.heap.size w w') := Lib.hid (fun w => filled_str i 0 (by omega) w)
      have HOK := Lib.hid HD.out.ok
      by_cases hlt : i < n
      · have e1 : opFl true lf = false := by unfold opFl; simp; omega
        have e2 : opLf true lf = lf - 1 := by unfold opLf; simp; omega
        have HE1 := Lib.hid e1
        have HE2 := Lib.hid e2
        have HLF := Lib.hid hlf
        clear hlf e1 e2
        go_wp2_with fail
        refine HO.out.mono ?_
        rintro e w4 ⟨rfl, rfl⟩
        go_wp2_with fail
        refine (HFI.out _).mono ?_
        rintro e w5 ⟨rfl, hb5⟩
        have hD5 := HD.out.keep (Fr.of_all (S := fun _ => False) hb5) (fun _ _ h => h)
        have HB5 := Lib.hid (HB.out.trans (hb5.mono hwr))
        have HW : Hid (Calls Try.prog 12 #[.pointer (some ⟨w.heap.size, 0, none⟩), .int .i64 0, .string (fill i 0)] w5 (DvWrote w.heap.size w.heap.size 2 true false (lf - 1) sy nw ws F 0 (fill i 0) w5)) := Lib.hid (by
          have e := dv_write 0 (fill i 0) hD5 (by rw [HNW.out]; omega) (fill_size _ _) (by rw [HWS.out]; omega) (by rw [HLF.out]; omega)
          rw [HE1.out, HE2.out] at e
          exact e)
        clear hD5 hb5 HD HB HE1 HE2
        go_wp2_with fail
        refine HW.out.mono ?_
        rintro e w6 ⟨he, F6, hD6, hS6⟩
        obtain rfl : e = .returned (.int .i64 0) := he
        have HN6 : Hid (FuseRel w.heap.size n w (i + 1) (i + 1) w6) := ⟨_, _, _, _, _, _, _, hD6, by rw [List.length_set]; exact HNW.out, by rw [List.length_append, HWS.out]; rfl, HB5.out.trans (hS6.1.below HB5.out.size HFG.out), .inl ⟨rfl, rfl, by rw [HLF.out]; omega, by omega, rfl⟩⟩
        clear hD6 hS6 HW HB5
        go_wp2
        go_roundw
        case rel => exact ⟨i + 1, i + 1, by go_num, by go_num, HN6.out⟩
        case measure => simp [intOf]; omega
      · obtain rfl : i = n := by omega
        have e1 : opFl true lf = true := by unfold opFl; simp; omega
        have HE1 := Lib.hid e1
        have HLF := Lib.hid hlf
        clear hlf e1
        go_wp2_with fail
        refine HO.out.mono ?_
        rintro e w4 ⟨rfl, rfl⟩
        go_wp2_with fail
        refine (HFI.out _).mono ?_
        rintro e w5 ⟨rfl, hb5⟩
        have hD5 := HD.out.keep (Fr.of_all (S := fun _ => False) hb5) (fun _ _ h => h)
        have HB5 := Lib.hid (HB.out.trans (hb5.mono hwr))
        have HW : Hid (Calls Try.prog 12 #[.pointer (some ⟨w.heap.size, 0, none⟩), .int .i64 0, .string (fill i 0)] w5 (DvWrote w.heap.size w.heap.size 2 true true (opLf true lf) sy nw ws F 0 (fill i 0) w5)) := Lib.hid (by
          have e := dv_write 0 (fill i 0) hD5 (by rw [HNW.out]; omega) (fill_size _ _) (by rw [HWS.out]; omega) (by rw [HLF.out]; omega)
          rw [HE1.out] at e
          exact e)
        clear hD5 hb5 HD HB HE1
        go_wp2_with fail
        refine HW.out.mono ?_
        rintro e w6 ⟨he, F6, hD6, hS6⟩
        obtain rfl : e = .returned (.int .i64 14) := he
        have HN6 : Hid (FuseRel w.heap.size i w (i + 1) i w6) := ⟨_, _, _, _, _, _, _, hD6, by rw [List.length_set]; exact HNW.out, by rw [List.length_append, HWS.out]; rfl, HB5.out.trans (hS6.1.below HB5.out.size HFG.out), .inr ⟨rfl, rfl, rfl⟩⟩
        clear hD6 hS6 HW HB5
        go_wp2
        go_roundw
        case rel => exact ⟨i + 1, i, by go_num, by go_num, HN6.out⟩
        case measure => simp [intOf]; omega
    · obtain rfl : dn = n := hdi
      obtain rfl : i = dn + 1 := hin
      have hlt : dn + 1 < 40 := by omega
      have HU := Lib.hid (dv_unsynced HD.out)
      have HSY := Lib.hid (dv_sync_off HD.out)
      rw [HWS.out] at HU
      go_wp2_with fail
      refine HO.out.mono ?_
      rintro e w4 ⟨rfl, rfl⟩
      go_wp2_with fail
      refine (alive_true _).mono ?_
      rintro e w5 ⟨rfl, hb5⟩
      have hD5 := HD.out.keep (Fr.of_all (S := fun _ => False) hb5) (fun _ _ h => h)
      have HU := Lib.hid (dv_unsynced hD5)
      have HSY := Lib.hid (dv_sync_off hD5)
      rw [HWS.out] at HU
      have HB5 := Lib.hid (HB.out.trans (hb5.mono hwr))
      clear hb5 hD5
      go_wp2_with fail
      refine HU.out.mono ?_
      rintro e w6 ⟨rfl, rfl⟩
      go_wp2_with fail
      refine HSY.out.mono ?_
      rintro e w7 ⟨rfl, rfl⟩
      go_wp2
      go_ret
      exact ⟨rfl, HB5.out⟩

theorem devFuses_walk (n : Int) (w : World) : Calls Try.prog 6 #[.int .i64 n] w fun e w' => e = .returned (.bool true) ∧ Below w.heap.size w w' := by
  by_cases h : n < 0 ∨ 30 < n
  · exact devFuses_out n w h
  · obtain ⟨k, rfl⟩ := Int.eq_ofNat_of_zero_le (show 0 ≤ n by omega)
    exact devFuses_in k w (by omega)
end Go.Proofs.Ytahjhhmhgjkheaa
