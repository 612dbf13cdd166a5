/- num.Crc of one text. -/
import Derived.Test.YtpoiopjggmhnjaaDoorUnfix
namespace Go.Proofs.YtpoiopjggmhnjaaDoor
open Go.RowKit

def crcBit (x : Nat) : Nat := if x % 2 = 1 then (x / 2) ^^^ 3988292384 else x / 2
def crcBits (x : Nat) : Nat → Nat
  | 0 => x
  | k + 1 => crcBit (crcBits x k)
def crcN (s : ByteArray) : Nat → Nat
  | 0 => 4294967295
  | i + 1 => crcBits (crcN s i ^^^ byteAt s i) 8
/-- A check sum. -/
def crcS (s : ByteArray) : Nat := 4294967295 - crcN s s.size

theorem crcBit_lt (x : Nat) (h : x < 2 ^ 32) : crcBit x < 2 ^ 32 := by
  unfold crcBit
  split
  · exact Nat.xor_lt_two_pow (by omega) (by omega)
  · omega
theorem crcBits_lt (x k : Nat) (h : x < 2 ^ 32) : crcBits x k < 2 ^ 32 := by
  induction k with
  | zero => exact h
  | succ k ih => exact crcBit_lt _ ih
theorem crcN_lt (s : ByteArray) (i : Nat) : crcN s i < 2 ^ 32 := by
  induction i with
  | zero => show 4294967295 < 2 ^ 32; omega
  | succ i ih => exact crcBits_lt _ _ (Nat.xor_lt_two_pow ih (Nat.lt_of_lt_of_le (byteAt_lt s i) (by omega)))

theorem u32_small (n : Nat) (h : n < 2 ^ 32) : IntKind.u32.wrap (n : Int) = n := by
  rw [IntKind.wrap_u32]
  omega
theorem u32_xor (a z : Nat) (ha : a < 2 ^ 32) (hz : z < 2 ^ 32) : bits .xor .u32 (a : Int) (z : Int) = ((a ^^^ z : Nat) : Int) := by
  have e1 : (BitVec.ofInt 32 (a : Int)).toNat = a := by rw [BitVec.toNat_ofInt]; omega
  have e2 : (BitVec.ofInt 32 (z : Int)).toNat = z := by rw [BitVec.toNat_ofInt]; omega
  have key : (BitVec.ofInt 32 (a : Int) ^^^ BitVec.ofInt 32 (z : Int)).toNat = a ^^^ z := by rw [BitVec.toNat_xor, e1, e2]
  show IntKind.u32.wrap ((BitVec.ofInt 32 (a : Int) ^^^ BitVec.ofInt 32 (z : Int)).toNat : Nat) = _
  rw [key]
  exact u32_small _ (Nat.xor_lt_two_pow ha hz)
theorem u32_and1 (a : Nat) (ha : a < 2 ^ 32) : bits .and .u32 (a : Int) 1 = ((a % 2 : Nat) : Int) := by
  have e1 : (BitVec.ofInt 32 (a : Int)).toNat = a := by rw [BitVec.toNat_ofInt]; omega
  have e2 : (BitVec.ofInt 32 1).toNat = 2 ^ 1 - 1 := by decide
  have key : (BitVec.ofInt 32 (a : Int) &&& BitVec.ofInt 32 1).toNat = a % 2 := by rw [BitVec.toNat_and, e1, e2, Nat.and_two_pow_sub_one_eq_mod]
  show IntKind.u32.wrap ((BitVec.ofInt 32 (a : Int) &&& BitVec.ofInt 32 1).toNat : Nat) = _
  rw [key]
  exact u32_small _ (by omega)

theorem all_xor (X : Nat) (h : X < 2 ^ 32) : 4294967295 ^^^ X = 4294967295 - X := by
  have h1 : (BitVec.allOnes 32 ^^^ BitVec.ofNat 32 X).toNat = 4294967295 ^^^ X := by
    rw [BitVec.toNat_xor, BitVec.toNat_allOnes, BitVec.toNat_ofNat, Nat.mod_eq_of_lt h]
  have h2 : (BitVec.allOnes 32 ^^^ BitVec.ofNat 32 X) = ~~~(BitVec.ofNat 32 X) := by
    rw [BitVec.xor_comm, BitVec.xor_allOnes]
  rw [h2, BitVec.toNat_not, BitVec.toNat_ofNat, Nat.mod_eq_of_lt h] at h1
  omega

set_option maxHeartbeats 2000000 in
set_option maxRecDepth 100000 in
theorem num_crc (s : ByteArray) (g c : Nat) (w : World) (hc : w.cell? ⟨g, 0, none⟩ = some (.string s)) (hs : s.size ≤ 1000000) :
    Calls Tryd.prog 51 #[.slice (some ⟨g, 0, none⟩) 1 c] w fun e w' => e = .returned (.int .i64 (crcS s : Nat)) ∧ w' = w := by
  go_enter Tryd.func51, Tryd.ntmps51
  go_wp2
  go_loop [3, 10] (fun xv jv => (jv = .int .i64 0 ∧ xv = .int .u32 4294967295) ∨ (jv = .int .i64 1 ∧ xv = .int .u32 (crcN s s.size : Nat))) (fun _ jv => 1 - (intOf jv).toNat)
  case atStart => exact .inl ⟨rfl, rfl⟩
  case round =>
    rcases hrel with ⟨rfl, rfl⟩ | ⟨rfl, rfl⟩
    · go_wp2
      go_loop [3, 16] (fun xv iv => ∃ i : Nat, i ≤ s.size ∧ iv = .int .i64 i ∧ xv = .int .u32 (crcN s i : Nat)) (fun _ iv => s.size - (intOf iv).toNat)
      case atStart => exact ⟨0, by omega, rfl, rfl⟩
      case round =>
        obtain ⟨i, hi, rfl, rfl⟩ := hrel
        by_cases hlt : i < s.size
        · have hbg := byteAt_get s i hlt
          have hbl := byteAt_lt s i
          have hcl := crcN_lt s i
          have hx := u32_xor (crcN s i) (byteAt s i) hcl (by omega)
          have hxl : crcN s i ^^^ byteAt s i < 2 ^ 32 := Nat.xor_lt_two_pow hcl (by omega)
          have HN : Hid (crcN s (i + 1) = crcBits (crcN s i ^^^ byteAt s i) 8) := Lib.hid rfl
          have HXL := Lib.hid hxl
          clear hxl
          generalize hX : crcN s i ^^^ byteAt s i = X at *
          clear hX
          go_wp2
          go_loop [3, 25] (fun xv kv => ∃ k : Nat, k ≤ 8 ∧ kv = .int .i64 k ∧ xv = .int .u32 (crcBits X k : Nat)) (fun _ kv => 8 - (intOf kv).toNat)
          case atStart => exact ⟨0, by omega, rfl, rfl⟩
          case round =>
            obtain ⟨k, hk, rfl, rfl⟩ := hrel
            by_cases hk8 : k < 8
            · have hbt := crcBits_lt X k HXL.out
              have HNX : Hid (crcBits X (k + 1) = crcBit (crcBits X k)) := Lib.hid rfl
              have ha := u32_and1 _ hbt
              generalize crcBits X k = Y at *
              by_cases ho : Y % 2 = 1
              · have hx2 : bits BinOp.xor IntKind.u32 ((Y : Int) / 2) 3988292384 = ((Y / 2 ^^^ 3988292384 : Nat) : Int) := by
                  have e := u32_xor (Y / 2) 3988292384 (by omega) (by omega)
                  simpa using e
                have ha1 : bits BinOp.and IntKind.u32 (Y : Int) 1 = 1 := by rw [ha, ho]; rfl
                have HB : Hid (crcBit Y = Y / 2 ^^^ 3988292384) := Lib.hid (by unfold crcBit; rw [if_pos ho])
                clear ha ho
                generalize Y / 2 ^^^ 3988292384 = Z at *
                clear hbt hcl hx hbg hbl
                go_wp2
                go_round
                case rel => exact ⟨k + 1, by omega, by go_num, by rw [HNX.out, HB.out]⟩
                case measure => simp [intOf]; omega
              · have ha1 : bits BinOp.and IntKind.u32 (Y : Int) 1 = 0 := by rw [ha]; omega
                have HB : Hid (crcBit Y = Y / 2) := Lib.hid (by unfold crcBit; rw [if_neg ho])
                clear ha ho hbt hcl hx hbg hbl
                go_wp2
                go_round
                case rel => exact ⟨k + 1, by omega, by go_num, by rw [HNX.out, HB.out]; simp⟩
                case measure => simp [intOf]; omega
            · obtain rfl : k = 8 := by omega
              rw [← HN.out]
              go_wp2
              go_round
              case rel => exact ⟨i + 1, by omega, by go_num, rfl⟩
              case measure => simp [intOf]; omega
        · obtain rfl : i = s.size := by omega
          go_wp2
          go_round
          case rel => exact .inr ⟨by go_num, rfl⟩
          case measure => simp [intOf]
    · have hcl := crcN_lt s s.size
      have HF : Hid (crcS s = 4294967295 - crcN s s.size) := Lib.hid rfl
      generalize crcN s s.size = X at *
      have hmx : bits BinOp.xor IntKind.u32 IntKind.u32.max (X : Int) = ((4294967295 - X : Nat) : Int) := by
        have e := u32_xor 4294967295 X (by omega) hcl
        rw [all_xor X hcl] at e
        exact e
      have hkn : ¬ IntKind.u32.signed = true := by decide
      have hw : wrap64 ((4294967295 - X : Nat) : Int) = ((4294967295 - X : Nat) : Int) := by unfold wrap64; omega
      clear hcl
      generalize 4294967295 - X = Z at *
      go_wp2
      go_ret
      exact ⟨by rw [HF.out]; rfl, rfl⟩
end Go.Proofs.YtpoiopjggmhnjaaDoor
