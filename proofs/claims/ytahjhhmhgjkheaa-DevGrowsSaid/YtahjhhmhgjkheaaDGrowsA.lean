/- arboretumlaw2.DevGrows: its walk, of one kind of arguments. (Printed by a program.) -/
import Derived.Test.YtahjhhmhgjkheaaDGrows
namespace Go.Proofs.Ytahjhhmhgjkheaa
open Go.RowKit Go.Conc

set_option maxHeartbeats 4000000 in
set_option maxRecDepth 100000 in
theorem devGrows_AA (m : Int) (a : Int) (b : Int) (q : Nat) (hq : q = 0) (hq3 : q ≤ 60) (w : World) (h1 : 1 ≤ m) (h2 : m ≤ 60) (ha : a < 0) (hb : b < (0 : Nat)) : Calls Try.prog 5 #[.int .i64 m, .int .i64 a, .int .i64 b] w fun e w' => e = .returned (.bool true) ∧ Below w.heap.size w w' := by
  have HN := Lib.hid (dv_new m w (by omega) (by omega))
  have he : growE m 0 a = 1 := by unfold growE; (try split) <;> (try split) <;> omega
  have hn : growN m 0 a = 0 := by unfold growN; (try split) <;> (try split) <;> omega
  have he2 : growE m 0 b = 1 := by unfold growE; (try split) <;> (try split) <;> omega
  have hn2 : growN m 0 b = q := by unfold growN; (try split) <;> (try split) <;> omega
  clear hq
  have HE := Lib.hid he
  have HNN := Lib.hid hn
  have HE2 := Lib.hid he2
  have HNN2 := Lib.hid hn2
  have HZP := Lib.hid zeros_page
  have HPS := Lib.hid page0_size
  clear he hn he2 hn2
  go_enter Try.func5, Try.ntmps5
  go_wp2_with fail
  refine HN.out.mono ?_
  rintro e w1 ⟨rfl, hD, hb1⟩
  have HB1 := Lib.hid hb1
  have HZ := Lib.hid hD.bsz
  have HG := Lib.hid (dv_grow_any (l := 0) (a : Int) hD (by omega))
  rw [HE.out, HNN.out] at HG
  clear hb1 hD HN
  go_wp2_with fail
  refine HG.out.mono ?_
  rintro e w2 ⟨rfl, F2, hD2, hS2⟩
  have HL := Lib.hid (dv_len hD2)
  rw [List.length_replicate] at HL
  have HG2 := Lib.hid (dv_grow_any (b : Int) hD2 (by omega))
  rw [HE2.out, HNN2.out] at HG2
  have HS2 := Lib.hid hS2
  clear hD2 hS2 HG
  go_wp2_with fail
  refine HL.out.mono ?_
  rintro e w9 ⟨rfl, rfl⟩
  clear HL
  go_wp2_with fail
  refine HG2.out.mono ?_
  rintro e w3 ⟨rfl, F3, hD3, hS3⟩
  have HD3 := Lib.hid hD3
  have HS3 := Lib.hid (HS2.out.trans hS3)
  clear hD3 hS3 HG2 HS2 HE HE2 HNN HNN2
  go_wp2_with fail
  go_loopw [12] (fun iv wr => ∃ i : Nat, i ≤ q ∧ iv = .int .i64 i ∧ Dv w.heap.size w.heap.size m true false 0 (List.replicate q page0) (List.replicate q page0) [] F3 wr ∧ Below w.heap.size w wr) (fun iv _ => q - (intOf iv).toNat)
  case atStart => exact ⟨0, by omega, rfl, HD3.out, HB1.out.trans (HS3.out.1.below HZ.out (fun i hi => by have : i = w.heap.size := hi; omega))⟩
  case round =>
    obtain ⟨i, hi, rfl, hD, hB⟩ := hrel
    have HD := Lib.hid hD
    have HB := Lib.hid hB
    have hwr := hB.size
    have HL := Lib.hid (dv_len hD)
    rw [List.length_replicate] at HL
    clear hD hB
    by_cases hlt : i < q
    · have HR := Lib.hid (dv_read i HD.out (by simpa using hlt))
      rw [show (List.replicate q page0).getD i default = page0 by simp [List.getD_eq_getElem?_getD, hlt]] at HR
      have hmk := make_zeros wr
      have hcv := conv_zeros wr
      go_wp2_with fail
      refine HL.out.mono ?_
      rintro e w9 ⟨rfl, rfl⟩
      go_wp2_with fail
      refine HR.out.mono ?_
      rintro e w9 ⟨rfl, rfl⟩
      go_wp2
      go_roundw
      case rel => exact ⟨i + 1, by omega, by go_num, HD.out.keep ((Fr.refl (fun _ => False) _).alloc _) (fun _ _ h => h), HB.out.alloc hwr _⟩
      case measure => simp [intOf]; omega
    · obtain rfl : i = q := by omega
      have HR := Lib.hid (dv_read_out i HD.out (.inr (by simp)))
      go_wp2_with fail
      refine HL.out.mono ?_
      rintro e w9 ⟨rfl, rfl⟩
      go_wp2_with fail
      refine HL.out.mono ?_
      rintro e w9 ⟨rfl, rfl⟩
      go_wp2_with fail
      refine HR.out.mono ?_
      rintro e w9 ⟨rfl, rfl⟩
      go_wp2_with fail
      refine (alive_true _).mono ?_
      rintro e w10 ⟨rfl, hb10⟩
      have HBE := Lib.hid (HB.out.trans (hb10.mono hwr))
      clear hb10
      go_wp2
      go_ret
      exact ⟨rfl, HBE.out⟩

set_option maxHeartbeats 4000000 in
set_option maxRecDepth 100000 in
theorem devGrows_AB (m : Int) (a : Int) (b : Int) (q : Nat) (hq : q = 0) (hq3 : q ≤ 60) (w : World) (h1 : 1 ≤ m) (h2 : m ≤ 60) (ha : a < 0) (hb : m < b) : Calls Try.prog 5 #[.int .i64 m, .int .i64 a, .int .i64 b] w fun e w' => e = .returned (.bool true) ∧ Below w.heap.size w w' := by
  have HN := Lib.hid (dv_new m w (by omega) (by omega))
  have he : growE m 0 a = 1 := by unfold growE; (try split) <;> (try split) <;> omega
  have hn : growN m 0 a = 0 := by unfold growN; (try split) <;> (try split) <;> omega
  have he2 : growE m 0 b = 10 := by unfold growE; (try split) <;> (try split) <;> omega
  have hn2 : growN m 0 b = q := by unfold growN; (try split) <;> (try split) <;> omega
  clear hq
  have HE := Lib.hid he
  have HNN := Lib.hid hn
  have HE2 := Lib.hid he2
  have HNN2 := Lib.hid hn2
  have HZP := Lib.hid zeros_page
  have HPS := Lib.hid page0_size
  clear he hn he2 hn2
  go_enter Try.func5, Try.ntmps5
  go_wp2_with fail
  refine HN.out.mono ?_
  rintro e w1 ⟨rfl, hD, hb1⟩
  have HB1 := Lib.hid hb1
  have HZ := Lib.hid hD.bsz
  have HG := Lib.hid (dv_grow_any (l := 0) (a : Int) hD (by omega))
  rw [HE.out, HNN.out] at HG
  clear hb1 hD HN
  go_wp2_with fail
  refine HG.out.mono ?_
  rintro e w2 ⟨rfl, F2, hD2, hS2⟩
  have HL := Lib.hid (dv_len hD2)
  rw [List.length_replicate] at HL
  have HG2 := Lib.hid (dv_grow_any (b : Int) hD2 (by omega))
  rw [HE2.out, HNN2.out] at HG2
  have HS2 := Lib.hid hS2
  clear hD2 hS2 HG
  go_wp2_with fail
  refine HL.out.mono ?_
  rintro e w9 ⟨rfl, rfl⟩
  clear HL
  go_wp2_with fail
  refine HG2.out.mono ?_
  rintro e w3 ⟨rfl, F3, hD3, hS3⟩
  have HD3 := Lib.hid hD3
  have HS3 := Lib.hid (HS2.out.trans hS3)
  clear hD3 hS3 HG2 HS2 HE HE2 HNN HNN2
  go_wp2_with fail
  go_loopw [12] (fun iv wr => ∃ i : Nat, i ≤ q ∧ iv = .int .i64 i ∧ Dv w.heap.size w.heap.size m true false 0 (List.replicate q page0) (List.replicate q page0) [] F3 wr ∧ Below w.heap.size w wr) (fun iv _ => q - (intOf iv).toNat)
  case atStart => exact ⟨0, by omega, rfl, HD3.out, HB1.out.trans (HS3.out.1.below HZ.out (fun i hi => by have : i = w.heap.size := hi; omega))⟩
  case round =>
    obtain ⟨i, hi, rfl, hD, hB⟩ := hrel
    have HD := Lib.hid hD
    have HB := Lib.hid hB
    have hwr := hB.size
    have HL := Lib.hid (dv_len hD)
    rw [List.length_replicate] at HL
    clear hD hB
    by_cases hlt : i < q
    · have HR := Lib.hid (dv_read i HD.out (by simpa using hlt))
      rw [show (List.replicate q page0).getD i default = page0 by simp [List.getD_eq_getElem?_getD, hlt]] at HR
      have hmk := make_zeros wr
      have hcv := conv_zeros wr
      go_wp2_with fail
      refine HL.out.mono ?_
      rintro e w9 ⟨rfl, rfl⟩
      go_wp2_with fail
      refine HR.out.mono ?_
      rintro e w9 ⟨rfl, rfl⟩
      go_wp2
      go_roundw
      case rel => exact ⟨i + 1, by omega, by go_num, HD.out.keep ((Fr.refl (fun _ => False) _).alloc _) (fun _ _ h => h), HB.out.alloc hwr _⟩
      case measure => simp [intOf]; omega
    · obtain rfl : i = q := by omega
      have HR := Lib.hid (dv_read_out i HD.out (.inr (by simp)))
      go_wp2_with fail
      refine HL.out.mono ?_
      rintro e w9 ⟨rfl, rfl⟩
      go_wp2_with fail
      refine HL.out.mono ?_
      rintro e w9 ⟨rfl, rfl⟩
      go_wp2_with fail
      refine HR.out.mono ?_
      rintro e w9 ⟨rfl, rfl⟩
      go_wp2_with fail
      refine (alive_true _).mono ?_
      rintro e w10 ⟨rfl, hb10⟩
      have HBE := Lib.hid (HB.out.trans (hb10.mono hwr))
      clear hb10
      go_wp2
      go_ret
      exact ⟨rfl, HBE.out⟩

set_option maxHeartbeats 4000000 in
set_option maxRecDepth 100000 in
theorem devGrows_AC (m : Int) (a : Int) (j : Nat) (w : World) (h1 : 1 ≤ m) (h2 : m ≤ 60) (ha : a < 0) (hb : 0 ≤ j) (hb2 : (j : Int) ≤ m) : Calls Try.prog 5 #[.int .i64 m, .int .i64 a, .int .i64 j] w fun e w' => e = .returned (.bool true) ∧ Below w.heap.size w w' := by
  have HN := Lib.hid (dv_new m w (by omega) (by omega))
  have he : growE m 0 a = 1 := by unfold growE; (try split) <;> (try split) <;> omega
  have hn : growN m 0 a = 0 := by unfold growN; (try split) <;> (try split) <;> omega
  have he2 : growE m 0 j = 0 := by unfold growE; (try split) <;> (try split) <;> omega
  have hn2 : growN m 0 j = j := by unfold growN; (try split) <;> (try split) <;> omega
  have HE := Lib.hid he
  have HNN := Lib.hid hn
  have HE2 := Lib.hid he2
  have HNN2 := Lib.hid hn2
  have HZP := Lib.hid zeros_page
  have HPS := Lib.hid page0_size
  clear he hn he2 hn2
  go_enter Try.func5, Try.ntmps5
  go_wp2_with fail
  refine HN.out.mono ?_
  rintro e w1 ⟨rfl, hD, hb1⟩
  have HB1 := Lib.hid hb1
  have HZ := Lib.hid hD.bsz
  have HG := Lib.hid (dv_grow_any (l := 0) (a : Int) hD (by omega))
  rw [HE.out, HNN.out] at HG
  clear hb1 hD HN
  go_wp2_with fail
  refine HG.out.mono ?_
  rintro e w2 ⟨rfl, F2, hD2, hS2⟩
  have HL := Lib.hid (dv_len hD2)
  rw [List.length_replicate] at HL
  have HG2 := Lib.hid (dv_grow_any (j : Int) hD2 (by omega))
  rw [HE2.out, HNN2.out] at HG2
  have HS2 := Lib.hid hS2
  clear hD2 hS2 HG
  go_wp2_with fail
  refine HL.out.mono ?_
  rintro e w9 ⟨rfl, rfl⟩
  clear HL
  go_wp2_with fail
  refine HG2.out.mono ?_
  rintro e w3 ⟨rfl, F3, hD3, hS3⟩
  have HD3 := Lib.hid hD3
  have HS3 := Lib.hid (HS2.out.trans hS3)
  clear hD3 hS3 HG2 HS2 HE HE2 HNN HNN2
  go_wp2_with fail
  go_loopw [12] (fun iv wr => ∃ i : Nat, i ≤ j ∧ iv = .int .i64 i ∧ Dv w.heap.size w.heap.size m true false 0 (List.replicate j page0) (List.replicate j page0) [] F3 wr ∧ Below w.heap.size w wr) (fun iv _ => j - (intOf iv).toNat)
  case atStart => exact ⟨0, by omega, rfl, HD3.out, HB1.out.trans (HS3.out.1.below HZ.out (fun i hi => by have : i = w.heap.size := hi; omega))⟩
  case round =>
    obtain ⟨i, hi, rfl, hD, hB⟩ := hrel
    have HD := Lib.hid hD
    have HB := Lib.hid hB
    have hwr := hB.size
    have HL := Lib.hid (dv_len hD)
    rw [List.length_replicate] at HL
    clear hD hB
    by_cases hlt : i < j
    · have HR := Lib.hid (dv_read i HD.out (by simpa using hlt))
      rw [show (List.replicate j page0).getD i default = page0 by simp [List.getD_eq_getElem?_getD, hlt]] at HR
      have hmk := make_zeros wr
      have hcv := conv_zeros wr
      go_wp2_with fail
      refine HL.out.mono ?_
      rintro e w9 ⟨rfl, rfl⟩
      go_wp2_with fail
      refine HR.out.mono ?_
      rintro e w9 ⟨rfl, rfl⟩
      go_wp2
      go_roundw
      case rel => exact ⟨i + 1, by omega, by go_num, HD.out.keep ((Fr.refl (fun _ => False) _).alloc _) (fun _ _ h => h), HB.out.alloc hwr _⟩
      case measure => simp [intOf]; omega
    · obtain rfl : i = j := by omega
      have HR := Lib.hid (dv_read_out i HD.out (.inr (by simp)))
      go_wp2_with fail
      refine HL.out.mono ?_
      rintro e w9 ⟨rfl, rfl⟩
      go_wp2_with fail
      refine HL.out.mono ?_
      rintro e w9 ⟨rfl, rfl⟩
      go_wp2_with fail
      refine HR.out.mono ?_
      rintro e w9 ⟨rfl, rfl⟩
      go_wp2_with fail
      refine (alive_true _).mono ?_
      rintro e w10 ⟨rfl, hb10⟩
      have HBE := Lib.hid (HB.out.trans (hb10.mono hwr))
      clear hb10
      go_wp2
      go_ret
      exact ⟨rfl, HBE.out⟩

end Go.Proofs.Ytahjhhmhgjkheaa
