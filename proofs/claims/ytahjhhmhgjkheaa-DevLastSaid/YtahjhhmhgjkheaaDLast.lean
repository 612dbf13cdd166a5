/- arboretumlaw2.DevLast: the walk. -/
import Derived.Test.YtahjhhmhgjkheaaDLastL
namespace Go.Proofs.Ytahjhhmhgjkheaa
open Go.RowKit Go.Conc

set_option maxRecDepth 100000 in
theorem devLast_out (n : Int) (p : Option Addr) (l c : Nat) (w : World) (hl0 : (l : Int) ≤ 9223372036854775807) (h : n < 1 ∨ 20 < n ∨ (l : Int) < n ∨ 40 < l) : Calls Try.prog 4 #[.int .i64 n, .slice p l c] w fun e w' => e = .returned (.bool true) ∧ Below w.heap.size w w' := by
  by_cases h1 : n < 1
  · clear h
    go_enter Try.func4, Try.ntmps4
    go_wp2_with fail
    refine (alive_true _).mono ?_
    rintro e w3 ⟨rfl, hb3⟩
    have HB := Lib.hid hb3
    clear hb3
    go_wp2
    go_ret
    exact ⟨rfl, HB.out⟩
  by_cases h2 : 20 < n
  · clear h
    go_enter Try.func4, Try.ntmps4
    go_wp2_with fail
    refine (alive_true _).mono ?_
    rintro e w3 ⟨rfl, hb3⟩
    have HB := Lib.hid hb3
    clear hb3
    go_wp2
    go_ret
    exact ⟨rfl, HB.out⟩
  by_cases h3 : (l : Int) < n
  · clear h
    go_enter Try.func4, Try.ntmps4
    go_wp2_with fail
    refine (alive_true _).mono ?_
    rintro e w3 ⟨rfl, hb3⟩
    have HB := Lib.hid hb3
    clear hb3
    go_wp2
    go_ret
    exact ⟨rfl, HB.out⟩
  · have h4 : 40 < l := by omega
    clear h
    go_enter Try.func4, Try.ntmps4
    go_wp2_with fail
    refine (alive_true _).mono ?_
    rintro e w3 ⟨rfl, hb3⟩
    have HB := Lib.hid hb3
    clear hb3
    go_wp2
    go_ret
    exact ⟨rfl, HB.out⟩

/-- Between two rounds: i writes wait. -/
def LastRel (db : Nat) (w : World) (i : Nat) (wr : World) : Prop :=
  ∃ nw F, nw.length = 1 ∧ Dv db db 2 true false 0 [page0] nw (lastWs i) F wr ∧ Below db w wr

set_option maxHeartbeats 4000000 in
set_option maxRecDepth 100000 in
theorem devLast_in (n : Nat) (p : Option Addr) (l c : Nat) (zs : List Int) (w : World) (hz : RdI w w.heap.size p l zs) (h1 : 1 ≤ n) (h2 : n ≤ 20) (h3 : n ≤ l) (h4 : l ≤ 40) : Calls Try.prog 4 #[.int .i64 n, .slice p l c] w fun e w' => e = .returned (.bool true) ∧ Below w.heap.size w w' := by
  have HN := Lib.hid (dv_new 2 w (by omega) (by omega))
  obtain ⟨kb, ko, rfl, hkb, hkc⟩ := hz.2 (by omega)
  have HZZ := Lib.hid hz
  have HKC := Lib.hid hkc
  clear hz hkc
  go_enter Try.func4, Try.ntmps4
  go_wp2_with fail
  refine HN.out.mono ?_
  rintro e w1 ⟨rfl, hD, hb1⟩
  have HB1 := Lib.hid hb1
  have HZ := Lib.hid hD.bsz
  have HG : Hid (Calls Try.prog 11 #[.pointer (some ⟨w.heap.size, 0, none⟩), .int .i64 1] w1 fun e w' => e = .returned (.int .i64 0) ∧ ∃ F', Dv w.heap.size w.heap.size 2 true false 0 [page0] [page0] [] F' w' ∧ Step (fun k => k = w.heap.size) F' w1 w') := Lib.hid (dv_grow 1 hD (by simp) (by omega) (by omega))
  clear hb1 hD HN
  go_wp2_with fail
  refine HG.out.mono ?_
  rintro e w2 ⟨rfl, F2, hD2, hS2⟩
  have HST : Hid (LastRel w.heap.size w 0 w2) := ⟨_, _, rfl, hD2, HB1.out.trans (hS2.1.below HZ.out (fun i hi => by have : i = w.heap.size := hi; omega))⟩
  clear hD2 hS2 HG HB1 HZ
  go_wp2
  go_loopw [7] (fun iv wr => ∃ i : Nat, i ≤ n ∧ iv = .int .i64 i ∧ LastRel w.heap.size w i wr) (fun iv _ => n - (intOf iv).toNat)
  case atStart => exact ⟨0, by omega, rfl, HST.out⟩
  case round =>
    clear HST
    obtain ⟨i, hi, rfl, nw, F, hnw, hD, hB⟩ := hrel
    have HNW := Lib.hid hnw
    have HD := Lib.hid hD
    have HB := Lib.hid hB
    have hwr := hB.size
    clear hnw hD hB
    by_cases hlt : i < n
    · have HFI : Hid (∀ w, Calls Try.prog 13 #[.int .u8 ((i : Int) + 1), .int .i64 300] w fun e w' => e = .returned (.string (fill (i + 1) 44)) ∧ Below w.heap.size w w') := Lib.hid (fun w => filled_str (i + 1) 300 (by omega) w)
      have HFG := Lib.hid HD.out.ge
      go_wp2_with fail
      refine (HFI.out _).mono ?_
      rintro e w5 ⟨rfl, hb5⟩
      have hD5 := HD.out.keep (Fr.of_all (S := fun _ => False) hb5) (fun _ _ h => h)
      have HB5 := Lib.hid (HB.out.trans (hb5.mono hwr))
      have HW : Hid (Calls Try.prog 12 #[.pointer (some ⟨w.heap.size, 0, none⟩), .int .i64 0, .string (fill (i + 1) 44)] w5 (DvWrote w.heap.size w.heap.size 2 false false 0 [page0] nw (lastWs i) F 0 (fill (i + 1) 44) w5)) := Lib.hid (dv_write 0 (fill (i + 1) 44) hD5 (by rw [HNW.out]; omega) (fill_size _ _) (by rw [lastWs_length]; omega) (by omega))
      clear hD5 hb5 HD HB HFI
      go_wp2_with fail
      refine HW.out.mono ?_
      rintro e w6 ⟨he, F6, hD6, hS6⟩
      obtain rfl : e = .returned (.int .i64 0) := he
      rw [← lastWs_succ] at hD6
      have HN6 : Hid (LastRel w.heap.size w (i + 1) w6) := ⟨_, _, by rw [List.length_set]; exact HNW.out, hD6, HB5.out.trans (hS6.1.below HB5.out.size HFG.out)⟩
      clear hD6 hS6 HW HB5
      go_wp2
      go_roundw
      case rel => exact ⟨i + 1, by omega, by go_num, HN6.out⟩
      case measure => simp [intOf]; omega
    · obtain rfl : i = n := by omega
      have hzk : RdI wr wr.heap.size (some ⟨kb, ko, none⟩) l zs := (HZZ.out.below HB.out).more hwr
      have HC := Lib.hid (dv_crash (some ⟨kb, ko, none⟩) l c zs HD.out hzk (fun a ha hF => by
        have h9 := HD.out.ge _ hF
        injection ha with ha
        subst ha
        exact absurd h9 (by show ¬ w.heap.size ≤ kb; omega)) (by omega))
      rw [lastWs_length, crash_last zs i i (Nat.le_refl _) (by rw [HZZ.out.1]; exact h3)] at HC
      have HFG := Lib.hid HD.out.ge
      have HQS := Lib.hid (lastQ_size zs i)
      have HQA := Lib.hid (fun k hk => lastQ_at zs k i hk)
      clear HD hzk
      go_wp2_with fail
      refine HC.out.mono ?_
      rintro e w3 ⟨rfl, F3, hD3, hS3⟩
      have HR := Lib.hid (dv_restore hD3 (by omega))
      have HB3 := Lib.hid (HB.out.trans (hS3.1.below hwr HFG.out))
      have HH3 := Lib.hid hD3.ge
      have HH4 := Lib.hid hD3.here
      clear hD3 hS3 HC HB
      go_wp2_with fail
      refine HR.out.mono ?_
      rintro e w4 ⟨rfl, hD4, hF4⟩
      have HQ : Hid (Calls Try.prog 17 #[.pointer (some ⟨w.heap.size, 0, none⟩), .int .i64 0] w4 fun e w' => e = .returned (.tuple #[.string (lastQ zs i), .int .i64 0]) ∧ w' = w4) := Lib.hid (dv_read 0 hD4 (by simp))
      have HB4 := Lib.hid (HB3.out.trans (hF4.below HB3.out.size (fun k hk => HH3.out k (by have : k = w.heap.size := hk; rw [this]; exact HH4.out))))
      clear hD4 hF4 HR HB3 HH3 HH4 HFG
      generalize lastQ zs i = S at *
      have hsz : ((S.size : Int) != 256) = false := by rw [HQS.out]; rfl
      have hle : S.size ≤ 256 := by have := HQS.out; omega
      have hge : 256 ≤ S.size := by have := HQS.out; omega
      go_wp2_with fail
      refine HQ.out.mono ?_
      rintro e w7 ⟨rfl, rfl⟩
      clear HQ
      have HKW : Hid (∀ k, k < l → w7.cell? ⟨kb, ko + k, none⟩ = some (.int .i64 (HL.el zs k))) := Lib.hid (fun k hk => (HB4.out.cell (p := ⟨kb, ko + k, none⟩) hkb).trans (HKC.out k hk))
      have hz4 := HB4.out.size
      go_wp2
      go_loop [10] (fun kv => ∃ k : Nat, k ≤ 8 ∧ kv = .int .i64 k) (fun kv => 8 - (intOf kv).toNat)
      case atStart => exact ⟨0, by omega, rfl⟩
      case round =>
        obtain ⟨k, hk, rfl⟩ := hrel
        by_cases hk8 : k < 8
        · go_wp2
          go_loop [11, 12] (fun wv jv => ∃ j : Nat, j ≤ i ∧ jv = .int .i64 j ∧ wv = .int .u8 (lastW zs k j : Nat)) (fun _ jv => i - (intOf jv).toNat)
          case atStart => exact ⟨0, by omega, rfl, rfl⟩
          case round =>
            obtain ⟨j, hj, rfl, rfl⟩ := hrel
            by_cases hjl : j < i
            · have hcell := HKW.out j (by omega)
              have HS := Lib.hid (lastW_succ zs k j)
              by_cases hb : HL.el zs j / 2 ^ k % 2 = 1
              · have hbit : bits BinOp.and IntKind.i64 (HL.el zs j / 2 ^ k) 1 = 1 := by rw [i64_and1]; exact hb
                have HS2 : Hid (lastW zs k (j + 1) = j + 1) := Lib.hid (by rw [HS.out, if_pos hb])
                clear hb HS
                generalize HL.el zs j = x at *
                go_wp2
                go_round
                case rel => exact ⟨j + 1, by omega, by go_num, by rw [HS2.out]; go_num⟩
                case measure => simp [intOf]; omega
              · have hbit : bits BinOp.and IntKind.i64 (HL.el zs j / 2 ^ k) 1 = 0 := by rw [i64_and1]; omega
                have HS2 : Hid (lastW zs k (j + 1) = lastW zs k j) := Lib.hid (by rw [HS.out, if_neg hb])
                clear hb HS
                generalize HL.el zs j = x at *
                go_wp2
                go_round
                case rel => exact ⟨j + 1, by omega, by go_num, by rw [HS2.out]⟩
                case measure => simp [intOf]; omega
            · obtain rfl : j = i := by omega
              have hwl := lastW_le zs k j
              have hat := HQA.out k hk8
              have hix : 32 * k + 1 < S.size := by omega
              have hby := byte_at hat hix
              have hbn : ((S[32 * k + 1].toNat : Int) != (lastW zs k j : Int)) = false := by
                rw [hby]
                have : (UInt8.ofNat (lastW zs k j)).toNat = lastW zs k j := by simp; omega
                rw [this]
                simp
              clear hby hat
              go_wp2
              go_round
              case rel => exact ⟨k + 1, by omega, by go_num⟩
              case measure => simp [intOf]; omega
        · obtain rfl : k = 8 := by omega
          go_wp2_with fail
          refine (alive_true _).mono ?_
          rintro e w10 ⟨rfl, hb10⟩
          have HBE := Lib.hid (HB4.out.trans (hb10.mono hz4))
          clear hb10
          go_wp2
          go_ret
          exact ⟨rfl, HBE.out⟩

theorem devLast_walk (n : Int) (p : Option Addr) (l c : Nat) (zs : List Int) (w : World) (hz : RdI w w.heap.size p l zs) (hl : (l : Int) ≤ 9223372036854775807) : Calls Try.prog 4 #[.int .i64 n, .slice p l c] w fun e w' => e = .returned (.bool true) ∧ Below w.heap.size w w' := by
  by_cases h : n < 1 ∨ 20 < n ∨ (l : Int) < n ∨ 40 < l
  · exact devLast_out n p l c w hl h
  · obtain ⟨k, rfl⟩ := Int.eq_ofNat_of_zero_le (show 0 ≤ n by omega)
    exact devLast_in k p l c zs w hz (by omega) (by omega) (by omega) (by omega)
end Go.Proofs.Ytahjhhmhgjkheaa
