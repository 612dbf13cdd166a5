/- dev: what torn leaves, byte for byte; the plain law of DevLast. -/
import Derived.Test.YtahjhhmhgjkheaaDAlive
namespace Go.Proofs.Ytahjhhmhgjkheaa
open Go.RowKit Go.Conc

theorem sect_at (s : List UInt8) (i j : Nat) (hj : j < 32) : (sect s i)[j]? = s[32 * i + j]? := by
  unfold sect
  rw [List.getElem?_take, if_pos hj, List.getElem?_drop]

theorem tornL_at (o d : List UInt8) (k n i j : Nat) (ho : o.length = 256) (hd : d.length = 256) (hn : n ≤ 8) (hi : i < n) (hj : j < 32) : (tornL o d k n)[32 * i + j]? = (if bitAt k i then d else o)[32 * i + j]? := by
  induction n with
  | zero => omega
  | succ n ih =>
    rw [tornL_succ]
    have hl := tornL_length o d k n ho hd (by omega)
    by_cases h : i < n
    · rw [List.getElem?_append_left (by omega)]
      exact ih (by omega) h
    · obtain rfl : i = n := by omega
      rw [List.getElem?_append_right (by omega), hl, show 32 * i + j - 32 * i = j by omega, sect_at _ _ _ hj]

theorem tornS_at (o d : ByteArray) (k i j : Nat) (ho : o.size = 256) (hd : d.size = 256) (hi : i < 8) (hj : j < 32) : (tornS o d k).data[32 * i + j]? = if bitAt k i then d.data[32 * i + j]? else o.data[32 * i + j]? := by
  have h := tornL_at o.data.toList d.data.toList k 8 i j (by simpa using ho) (by simpa using hd) (by omega) hi hj
  unfold tornS
  rw [List.getElem?_toArray, h]
  split <;> simp

/-- A bit of what is handed in, and of what torn is told. -/
theorem bit_keep (x : Int) (k : Nat) (hk : k < 8) : bitAt (x % 256).toNat k = decide (x / 2 ^ k % 2 = 1) := by
  unfold bitAt
  rw [Bool.eq_iff_iff]
  simp only [beq_iff_eq, decide_eq_true_eq]
  obtain rfl | rfl | rfl | rfl | rfl | rfl | rfl | rfl : k = 0 ∨ k = 1 ∨ k = 2 ∨ k = 3 ∨ k = 4 ∨ k = 5 ∨ k = 6 ∨ k = 7 := by omega
  all_goals
    simp only [Nat.pow_zero, Nat.reducePow, Int.reducePow, Int.pow_zero]
    omega

def lastWs (n : Nat) : List Wr := (List.range n).map fun i => ((((0 : Nat) : Int)), fill (i + 1) 44)
theorem lastWs_succ (n : Nat) : lastWs (n + 1) = lastWs n ++ [(((0 : Nat) : Int), fill (n + 1) 44)] := by
  unfold lastWs
  rw [List.range_succ, List.map_append]
  rfl
theorem lastWs_length (n : Nat) : (lastWs n).length = n := by simp [lastWs]
theorem lastWs_at (n i : Nat) (h : i < n) : (lastWs n).getD i default = (((0 : Nat) : Int), fill (i + 1) 44) := by
  rw [List.getD_eq_getElem?_getD, lastWs, List.getElem?_map, List.getElem?_range h]
  rfl

/-- The page behind the failure. -/
def lastQ (ks : List Int) : Nat → ByteArray
  | 0 => page0
  | n + 1 => tornS (lastQ ks n) (fill (n + 1) 44) (HL.el ks n % 256).toNat
/-- The last write whose sector k stays. -/
def lastW (ks : List Int) (k : Nat) : Nat → Nat
  | 0 => 0
  | n + 1 => if HL.el ks n / 2 ^ k % 2 = 1 then n + 1 else lastW ks k n
theorem lastW_succ (ks : List Int) (k n : Nat) : lastW ks k (n + 1) = if HL.el ks n / 2 ^ k % 2 = 1 then n + 1 else lastW ks k n := rfl
theorem lastQ_succ (ks : List Int) (n : Nat) : lastQ ks (n + 1) = tornS (lastQ ks n) (fill (n + 1) 44) (HL.el ks n % 256).toNat := rfl

theorem lastQ_size (ks : List Int) (n : Nat) : (lastQ ks n).size = 256 := by
  induction n with
  | zero => exact page0_size
  | succ n ih => exact tornS_size _ _ _ ih (fill_size _ _)

theorem lastW_le (ks : List Int) (k n : Nat) : lastW ks k n ≤ n := by
  induction n with
  | zero => exact Nat.le_refl _
  | succ n ih => rw [lastW_succ]; split <;> omega

theorem fill_at (b k j : Nat) (hj : j < 256) : (fill b k).data[j]? = some (if j = k then UInt8.ofNat (b + 1) else UInt8.ofNat b) := by
  unfold fill fillL
  rw [List.getElem?_toArray, List.getElem?_map, List.getElem?_range hj]
  rfl

theorem page0_at (j : Nat) (hj : j < 256) : page0.data[j]? = some 0 := by
  have h : page0 = ⟨(List.replicate 256 (0 : UInt8)).toArray⟩ := by kernel_rfl
  rw [h, List.getElem?_toArray, List.getElem?_replicate, if_pos hj]

theorem lastQ_at (ks : List Int) (k n : Nat) (hk : k < 8) : (lastQ ks n).data[32 * k + 1]? = some (UInt8.ofNat (lastW ks k n)) := by
  induction n with
  | zero => exact page0_at _ (by omega)
  | succ n ih =>
    rw [lastQ_succ, tornS_at _ _ _ _ _ (lastQ_size ks n) (fill_size _ _) hk (by omega), bit_keep _ _ hk, lastW_succ]
    by_cases h : HL.el ks n / 2 ^ k % 2 = 1
    · rw [if_pos h, if_pos (by simpa using h), fill_at _ _ _ (by omega), if_neg (by omega)]
    · rw [if_neg h, if_neg (by simpa using h), ih]

theorem crash_last (ks : List Int) (n i : Nat) (hi : i ≤ n) (hn : n ≤ ks.length) : crashL [page0] (lastWs n) ks i = [lastQ ks i] := by
  induction i with
  | zero => rfl
  | succ i ih =>
    rw [crashL_succ, if_pos (by omega), ih (by omega), lastWs_at n i (by omega)]
    rfl
end Go.Proofs.Ytahjhhmhgjkheaa
