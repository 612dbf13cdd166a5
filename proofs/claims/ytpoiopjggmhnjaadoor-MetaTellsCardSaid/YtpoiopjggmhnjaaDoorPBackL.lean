/- A page with one byte changed is not opened: the plain law. -/
import Derived.Test.YtpoiopjggmhnjaaDoorPAlive
namespace Go.Proofs.YtpoiopjggmhnjaaDoor
open Go.RowKit

theorem crcBit_inj {x y : Nat} (hx : x < 2 ^ 32) (hy : y < 2 ^ 32) (h : crcBit x = crcBit y) : x = y := by
  have bit : ∀ z : Nat, z < 2 ^ 31 → (z ^^^ 3988292384).testBit 31 = true := fun z hz => by
    rw [Nat.testBit_xor, Nat.testBit_lt_two_pow hz]
    decide
  unfold crcBit at h
  by_cases h1 : x % 2 = 1
  · by_cases h2 : y % 2 = 1
    · rw [if_pos h1, if_pos h2] at h
      have h3 : x / 2 = y / 2 := by
        have e := congrArg (· ^^^ 3988292384) h
        simp only [Nat.xor_assoc, Nat.xor_self, Nat.xor_zero] at e
        exact e
      omega
    · rw [if_pos h1, if_neg h2] at h
      have e := bit (x / 2) (by omega)
      rw [h, Nat.testBit_lt_two_pow (show y / 2 < 2 ^ 31 by omega)] at e
      cases e
  · by_cases h2 : y % 2 = 1
    · rw [if_neg h1, if_pos h2] at h
      have e := bit (y / 2) (by omega)
      rw [← h, Nat.testBit_lt_two_pow (show x / 2 < 2 ^ 31 by omega)] at e
      cases e
    · rw [if_neg h1, if_neg h2] at h
      omega

theorem crcBits_inj {x y : Nat} (hx : x < 2 ^ 32) (hy : y < 2 ^ 32) : ∀ k, crcBits x k = crcBits y k → x = y
  | 0, h => h
  | k + 1, h => crcBits_inj hx hy k (crcBit_inj (crcBits_lt x k hx) (crcBits_lt y k hy) h)

theorem xor_cancel {a b c : Nat} (h : a ^^^ c = b ^^^ c) : a = b := by
  have e := congrArg (· ^^^ c) h
  simp only [Nat.xor_assoc, Nat.xor_self, Nat.xor_zero] at e
  exact e

theorem crcN_same (s t : ByteArray) (n : Nat) (h : ∀ i, i < n → byteAt s i = byteAt t i) : crcN s n = crcN t n := by
  induction n with
  | zero => rfl
  | succ n ih =>
    show crcBits (crcN s n ^^^ byteAt s n) 8 = crcBits (crcN t n ^^^ byteAt t n) 8
    rw [ih (fun i hi => h i (by omega)), h n (by omega)]

theorem crcN_diff (s t : ByteArray) (k n : Nat) (hk : k < n) (h : ∀ i, i ≠ k → byteAt s i = byteAt t i) (hd : byteAt s k ≠ byteAt t k) : crcN s n ≠ crcN t n := by
  induction n with
  | zero => omega
  | succ n ih =>
    intro e
    have hxs : crcN s n ^^^ byteAt s n < 2 ^ 32 := Nat.xor_lt_two_pow (crcN_lt s n) (Nat.lt_of_lt_of_le (byteAt_lt s n) (by omega))
    have hxt : crcN t n ^^^ byteAt t n < 2 ^ 32 := Nat.xor_lt_two_pow (crcN_lt t n) (Nat.lt_of_lt_of_le (byteAt_lt t n) (by omega))
    have e2 : crcN s n ^^^ byteAt s n = crcN t n ^^^ byteAt t n := crcBits_inj hxs hxt 8 e
    by_cases hkn : k = n
    · subst hkn
      rw [crcN_same s t k (fun i hi => h i (by omega)), Nat.xor_comm, Nat.xor_comm (crcN t k)] at e2
      exact hd (xor_cancel e2)
    · rw [h n (fun e => hkn e.symm)] at e2
      exact ih (by omega) (xor_cancel e2)

theorem unfix_byte (b : ByteArray) (at' : Nat) : ∀ n i, i < n → unfixN b at' n / 2 ^ (8 * i) % 256 = byteAt b (at' + i)
  | 0, i, h => by omega
  | n + 1, i, h => by
    show (unfixN b at' n + byteAt b (at' + n) * 2 ^ (8 * n)) / 2 ^ (8 * i) % 256 = _
    by_cases hi : i = n
    · subst hi
      rw [Nat.add_mul_div_right _ _ (Nat.two_pow_pos _), Nat.div_eq_of_lt (unfixN_lt b at' i), Nat.zero_add, Nat.mod_eq_of_lt (byteAt_lt _ _)]
    · have e : 8 * n = 8 * i + 8 * (n - i - 1) + 8 := by omega
      have e2 : byteAt b (at' + n) * 2 ^ (8 * n) = (byteAt b (at' + n) * 2 ^ (8 * (n - i - 1)) * 256) * 2 ^ (8 * i) := by
        rw [e, Nat.pow_add, Nat.pow_add]
        simp only [Nat.reducePow, Nat.mul_assoc, Nat.mul_comm, Nat.mul_left_comm]
      rw [e2, Nat.add_mul_div_right _ _ (Nat.two_pow_pos _), Nat.add_mul_mod_self_right]
      exact unfix_byte b at' n i (by omega)

/-- A text with one byte changed. -/
def flipS (s : ByteArray) (k y : Nat) : ByteArray := ⟨(s.data.toList.set k (UInt8.ofNat (byteAt s k ^^^ y))).toArray⟩
theorem flipS_size (s : ByteArray) (k y : Nat) : (flipS s k y).size = s.size := by
  show (s.data.toList.set k (UInt8.ofNat (byteAt s k ^^^ y))).toArray.size = s.size
  rw [List.size_toArray, List.length_set]
  simp
theorem flipS_same (s : ByteArray) (k y i : Nat) (h : i ≠ k) : byteAt (flipS s k y) i = byteAt s i := by
  unfold flipS byteAt
  congr 1
  rw [Array.getD_eq_getD_getElem?, Array.getD_eq_getD_getElem?, List.getElem?_toArray, List.getElem?_set_ne (fun e => h e.symm)]
  simp
theorem flipS_at (s : ByteArray) (k y : Nat) (h : k < s.size) (hy : y < 256) : byteAt (flipS s k y) k = byteAt s k ^^^ y := by
  have hl : k < s.data.toList.length := by simpa using h
  have e : (flipS s k y).data.getD k 0 = UInt8.ofNat (byteAt s k ^^^ y) := by
    unfold flipS
    rw [Array.getD_eq_getD_getElem?, List.getElem?_toArray, List.getElem?_set_self hl]
    rfl
  have e2 : byteAt (flipS s k y) k = (UInt8.ofNat (byteAt s k ^^^ y)).toNat := by
    show ((flipS s k y).data.getD k 0).toNat = _
    rw [e]
  rw [e2]
  have : byteAt s k ^^^ y < 2 ^ 8 := Nat.xor_lt_two_pow (byteAt_lt s k) hy
  generalize byteAt s k ^^^ y = z at *
  simp
  omega
theorem byteAt_cut (s : ByteArray) (n i : Nat) (h : i < n) : byteAt (s.extract 0 n) i = byteAt s i := by
  unfold byteAt
  congr 1
  rw [Array.getD_eq_getD_getElem?, Array.getD_eq_getD_getElem?, ByteArray.data_extract, Array.getElem?_extract]
  by_cases h2 : i < s.data.size
  · rw [if_pos (by omega), Nat.zero_add]
  · rw [if_neg (by omega), Array.getElem?_eq_none (by omega)]

theorem flip_sum (s : ByteArray) (k y : Nat) (hs : s.size = 256) (hsum : unfixN s 252 4 = crcS (s.extract 0 252)) (hk : k < 256) (hy : y < 256) (hy0 : y ≠ 0) :
    unfixN (flipS s k y) 252 4 ≠ crcS ((flipS s k y).extract 0 252) := by
  have hz1 : (s.extract 0 252).size = 252 := by rw [ByteArray.size_extract]; omega
  have hz2 : ((flipS s k y).extract 0 252).size = 252 := by rw [ByteArray.size_extract, flipS_size]; omega
  have hne : byteAt s k ≠ byteAt (flipS s k y) k := by
    rw [flipS_at s k y (by omega) hy]
    intro e
    have e2 : 0 ^^^ byteAt s k = y ^^^ byteAt s k := by
      rw [Nat.zero_xor, Nat.xor_comm]
      exact e
    exact hy0 (xor_cancel e2).symm
  intro e
  by_cases hk2 : k < 252
  · have hu : unfixN (flipS s k y) 252 4 = unfixN s 252 4 := by
      have e4 : ∀ i, i < 4 → byteAt (flipS s k y) (252 + i) = byteAt s (252 + i) := fun i hi => flipS_same s k y _ (by omega)
      simp only [unfixN, e4 0 (by omega), e4 1 (by omega), e4 2 (by omega), e4 3 (by omega)]
    rw [hu, hsum] at e
    unfold crcS at e
    rw [hz1, hz2] at e
    have h1 := crcN_lt (s.extract 0 252) 252
    have h2 := crcN_lt ((flipS s k y).extract 0 252) 252
    refine crcN_diff (s.extract 0 252) ((flipS s k y).extract 0 252) k 252 hk2 (fun i hi => ?_) ?_ (by omega)
    · by_cases hi2 : i < 252
      · rw [byteAt_cut _ _ _ hi2, byteAt_cut _ _ _ hi2, flipS_same s k y i hi]
      · have hz : ∀ t : ByteArray, (t.extract 0 252).size = 252 → byteAt (t.extract 0 252) i = 0 := fun t ht => by
          unfold byteAt
          rw [Array.getD_eq_getD_getElem?, Array.getElem?_eq_none (by have : (t.extract 0 252).data.size = 252 := ht; omega)]
          rfl
        rw [hz s hz1, hz _ hz2]
    · rw [byteAt_cut _ _ _ hk2, byteAt_cut _ _ _ hk2]
      exact hne
  · have hc : crcS ((flipS s k y).extract 0 252) = crcS (s.extract 0 252) := by
      unfold crcS
      rw [hz1, hz2, crcN_same _ (s.extract 0 252) 252 (fun i hi => by rw [byteAt_cut _ _ _ hi, byteAt_cut _ _ _ hi, flipS_same s k y i (by omega)])]
    rw [hc, ← hsum] at e
    have h1 := unfix_byte s 252 4 (k - 252) (by omega)
    have h2 := unfix_byte (flipS s k y) 252 4 (k - 252) (by omega)
    rw [e, h1, show 252 + (k - 252) = k by omega] at h2
    exact hne h2
end Go.Proofs.YtpoiopjggmhnjaaDoor
