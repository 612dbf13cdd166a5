/- arboretumref1.Crc. -/
import Derived.Test.YtpoiopjggmhnjaaDoorRFix
namespace Go.Proofs.YtpoiopjggmhnjaaDoor
open Go.RowKit

theorem i64_xor (a z : Nat) (ha : a < 2 ^ 63) (hz : z < 2 ^ 63) : bits .xor .i64 (a : Int) (z : Int) = ((a ^^^ z : Nat) : Int) := by
  have e1 : (BitVec.ofInt 64 (a : Int)).toNat = a := by rw [BitVec.toNat_ofInt]; omega
  have e2 : (BitVec.ofInt 64 (z : Int)).toNat = z := by rw [BitVec.toNat_ofInt]; omega
  have key : (BitVec.ofInt 64 (a : Int) ^^^ BitVec.ofInt 64 (z : Int)).toNat = a ^^^ z := by rw [BitVec.toNat_xor, e1, e2]
  show IntKind.i64.wrap ((BitVec.ofInt 64 (a : Int) ^^^ BitVec.ofInt 64 (z : Int)).toNat : Nat) = _
  rw [key]
  exact i64_small _ (Nat.xor_lt_two_pow ha hz)

set_option maxHeartbeats 2000000 in
set_option maxRecDepth 100000 in
theorem ref_crc (s : ByteArray) (w : World) (hs : s.size ≤ 1000000) :
    Calls Tryd.prog 54 #[.string s] w fun e w' => e = .returned (.int .i64 (crcS s : Nat)) ∧ w' = w := by
  go_enter Tryd.func54, Tryd.ntmps54
  go_wp2
  go_loop [3, 4] (fun xv iv => ∃ i : Nat, i ≤ s.size ∧ iv = .int .i64 i ∧ xv = .int .i64 (crcN s i : Nat)) (fun _ iv => s.size - (intOf iv).toNat)
  case atStart => exact ⟨0, by omega, rfl, rfl⟩
  case round =>
    obtain ⟨i, hi, rfl, rfl⟩ := hrel
    by_cases hlt : i < s.size
    · have hbg := byteAt_get s i hlt
      have hbl := byteAt_lt s i
      have hcl := crcN_lt s i
      have hx := i64_xor (crcN s i) (byteAt s i) (by omega) (by omega)
      have hxl : crcN s i ^^^ byteAt s i < 2 ^ 32 := Nat.xor_lt_two_pow hcl (by omega)
      have HN : Hid (crcN s (i + 1) = crcBits (crcN s i ^^^ byteAt s i) 8) := Lib.hid rfl
      have HXL := Lib.hid hxl
      clear hxl
      generalize hX : crcN s i ^^^ byteAt s i = X at *
      clear hX
      go_wp2
      go_loop [3, 5] (fun xv kv => ∃ k : Nat, k ≤ 8 ∧ kv = .int .i64 k ∧ xv = .int .i64 (crcBits X k : Nat)) (fun _ kv => 8 - (intOf kv).toNat)
      case atStart => exact ⟨0, by omega, rfl, rfl⟩
      case round =>
        obtain ⟨k, hk, rfl, rfl⟩ := hrel
        by_cases hk8 : k < 8
        · have hbt := crcBits_lt X k HXL.out
          have HNX : Hid (crcBits X (k + 1) = crcBit (crcBits X k)) := Lib.hid rfl
          generalize crcBits X k = Y at *
          have hq : wrap64 ((Y : Int) / 2) = (Y : Int) / 2 := by unfold wrap64; omega
          by_cases ho : Y % 2 = 1
          · have hx2 : bits BinOp.xor IntKind.i64 ((Y : Int) / 2) 3988292384 = ((Y / 2 ^^^ 3988292384 : Nat) : Int) := by
              have e := i64_xor (Y / 2) 3988292384 (by omega) (by omega)
              simpa using e
            have ha1 : ((Y : Int) % 2 == 1) = true := by rw [beq_iff_eq]; omega
            have HB : Hid (crcBit Y = Y / 2 ^^^ 3988292384) := Lib.hid (by unfold crcBit; rw [if_pos ho])
            clear ho
            have hY0 : (0 : Int) ≤ (Y : Int) := by omega
            have HBT := Lib.hid hbt
            generalize Y / 2 ^^^ 3988292384 = Z at *
            clear hbt hcl hx hbg hbl
            go_wp2
            go_round
            case rel => exact ⟨k + 1, by omega, by go_num, by rw [HNX.out, HB.out]⟩
            case measure => simp [intOf]; omega
          · have ha1 : ((Y : Int) % 2 == 1) = false := by rw [beq_eq_false_iff_ne]; omega
            have HB : Hid (crcBit Y = Y / 2) := Lib.hid (by unfold crcBit; rw [if_neg ho])
            have hY0 : (0 : Int) ≤ (Y : Int) := by omega
            clear ho hbt hcl hx hbg hbl
            go_wp2
            go_round
            case rel => exact ⟨k + 1, by omega, by go_num, by rw [hq, HNX.out, HB.out]; simp⟩
            case measure => simp [intOf]; omega
        · obtain rfl : k = 8 := by omega
          clear hcl hx hbg hbl
          go_wp2
          go_round
          case rel => exact ⟨i + 1, by omega, by go_num, by rw [HN.out]⟩
          case measure => simp [intOf]; omega
    · obtain rfl : i = s.size := by omega
      have HC := Lib.hid (crcN_lt s s.size)
      have HS : Hid (crcS s = 4294967295 - crcN s s.size) := Lib.hid rfl
      have hw : wrap64 (4294967295 - ((crcN s s.size : Nat) : Int)) = 4294967295 - ((crcN s s.size : Nat) : Int) := by
        have := HC.out
        unfold wrap64; omega
      go_wp2
      go_ret
      refine ⟨?_, rfl⟩
      rw [HS.out]
      have h4 := HC.out
      generalize crcN s s.size = X at *
      have h5 : ((4294967295 - X : Nat) : Int) = 4294967295 - (X : Int) := by omega
      rw [h5]
      rfl
end Go.Proofs.YtpoiopjggmhnjaaDoor
