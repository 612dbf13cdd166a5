/- num.Unfix: a number out of so many bytes. -/
import Derived.Test.YtedcpckocedcoaaGreatFix
namespace Go.Proofs.YtedcpckocedcoaaGreat
open Go.RowKit

def byteAt (b : ByteArray) (i : Nat) : Nat := (b.data.getD i 0).toNat
theorem byteAt_lt (b : ByteArray) (i : Nat) : byteAt b i < 256 := by unfold byteAt; exact UInt8.toNat_lt _
theorem byteAt_get (b : ByteArray) (i : Nat) (h : i < b.size) : (b[i].toNat : Int) = (byteAt b i : Nat) := by
  unfold byteAt
  rw [Array.getD_eq_getD_getElem?, Array.getElem?_eq_getElem h]
  rfl
def unfixN (b : ByteArray) (at' : Nat) : Nat → Nat
  | 0 => 0
  | i + 1 => unfixN b at' i + byteAt b (at' + i) * 2 ^ (8 * i)
theorem unfixN_lt (b : ByteArray) (at' n : Nat) : unfixN b at' n < 2 ^ (8 * n) := by
  induction n with
  | zero => simp [unfixN]
  | succ n ih =>
    have h1 := byteAt_lt b (at' + n)
    have h2 : byteAt b (at' + n) * 2 ^ (8 * n) ≤ 255 * 2 ^ (8 * n) := Nat.mul_le_mul_right _ (by omega)
    have e : 2 ^ (8 * (n + 1)) = 256 * 2 ^ (8 * n) := by rw [show 8 * (n + 1) = 8 + 8 * n by omega, Nat.pow_add]
    unfold unfixN
    omega

theorem i64_small (n : Nat) (h : n < 2 ^ 63) : IntKind.i64.wrap (n : Int) = n := by
  rw [IntKind.wrap_i64]
  omega

theorem i64_or (a z : Nat) (ha : a < 2 ^ 63) (hz : z < 2 ^ 63) : bits .or .i64 (a : Int) (z : Int) = ((a ||| z : Nat) : Int) := by
  have e1 : (BitVec.ofInt 64 (a : Int)).toNat = a := by rw [BitVec.toNat_ofInt]; omega
  have e2 : (BitVec.ofInt 64 (z : Int)).toNat = z := by rw [BitVec.toNat_ofInt]; omega
  have key : (BitVec.ofInt 64 (a : Int) ||| BitVec.ofInt 64 (z : Int)).toNat = a ||| z := by rw [BitVec.toNat_or, e1, e2]
  show IntKind.i64.wrap ((BitVec.ofInt 64 (a : Int) ||| BitVec.ofInt 64 (z : Int)).toNat : Nat) = _
  rw [key]
  exact i64_small _ (Nat.or_lt_two_pow ha hz)

theorem unfix_step (a y i : Nat) (ha : a < 2 ^ (8 * i)) (hy : y < 256) (hi : i < 7) : bits .or .i64 (a : Int) (wrap64 ((y : Int) * 2 ^ (8 * i))) = ((a + y * 2 ^ (8 * i) : Nat) : Int) := by
  have hp : 2 ^ (8 * i) ≤ 2 ^ 48 := Nat.pow_le_pow_right (by omega) (by omega)
  have hz : y * 2 ^ (8 * i) < 2 ^ 63 := by
    have : y * 2 ^ (8 * i) ≤ 255 * 2 ^ 48 := Nat.mul_le_mul (by omega) hp
    omega
  have e : (y : Int) * 2 ^ (8 * i) = ((y * 2 ^ (8 * i) : Nat) : Int) := by simp
  have ew : wrap64 (((y * 2 ^ (8 * i) : Nat) : Int)) = ((y * 2 ^ (8 * i) : Nat) : Int) := by unfold wrap64; omega
  rw [e, ew, i64_or a _ (by omega) hz]
  have h := Nat.two_pow_add_eq_or_of_lt ha y
  rw [Nat.or_comm, Nat.mul_comm y, ← h, Nat.add_comm]

set_option maxHeartbeats 1000000 in
set_option maxRecDepth 100000 in
theorem num_unfix (b : ByteArray) (at' n : Nat) (w : World) (h : at' + n ≤ b.size) (h1 : 1 ≤ n) (h2 : n ≤ 7) (hb : b.size ≤ 1000000) :
    Calls Tryz.prog 100 #[.string b, .int .i64 at', .int .i64 n] w fun e w' => e = .returned (.tuple #[.int .i64 (unfixN b at' n : Nat), .int .i64 0]) ∧ w' = w := by
  have e0 : ¬ ((b.size : Int) < (at' : Int)) := by omega
  have e1 : ¬ ((b.size : Int) - (at' : Int) < (n : Int)) := by omega
  go_enter Tryz.func100, Tryz.ntmps100
  go_wp2
  go_loop [8, 35] (fun vv iv => ∃ i : Nat, i ≤ n ∧ iv = .int .i64 i ∧ vv = .int .i64 (unfixN b at' i : Nat)) (fun _ iv => n - (intOf iv).toNat)
  case atStart => exact ⟨0, by omega, rfl, rfl⟩
  case round =>
    obtain ⟨i, hi, rfl, rfl⟩ := hrel
    by_cases hlt : i < n
    · have hix : at' + i < b.size := by omega
      have hbg := byteAt_get b (at' + i) hix
      have hbl := byteAt_lt b (at' + i)
      have hul := unfixN_lt b at' i
      have HU : Hid (unfixN b at' (i + 1) = unfixN b at' i + byteAt b (at' + i) * 2 ^ (8 * i)) := Lib.hid rfl
      have HSTP := Lib.hid (unfix_step _ _ i hul hbl (by omega))
      go_wp2
      go_round
      case rel => exact ⟨i + 1, by omega, by go_num, by rw [HSTP.out, HU.out]⟩
      case measure => simp [intOf]; omega
    · obtain rfl : i = n := by omega
      go_wp2
      go_ret2
      exact ⟨rfl, rfl⟩
end Go.Proofs.YtedcpckocedcoaaGreat
