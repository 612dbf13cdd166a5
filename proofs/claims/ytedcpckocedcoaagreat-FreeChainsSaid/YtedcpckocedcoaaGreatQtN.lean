/- arboretumbook.name. -/
import Derived.Test.YtedcpckocedcoaaGreatQtL
import Derived.Test.YtedcpckocedcoaaGreatFix
namespace Go.Proofs.YtedcpckocedcoaaGreat
open Go.RowKit

def nameL (i k : Nat) : List UInt8 := [109, UInt8.ofNat (65 + i % 26), UInt8.ofNat (65 + i / 26 % 26), UInt8.ofNat (48 + k % 10), UInt8.ofNat (48 + k / 10 % 10), UInt8.ofNat (48 + k / 100 % 10)]
def nameT (i k : Nat) : ByteArray := ⟨(nameL i k).toArray⟩
theorem u8_of (n : Nat) (h : n < 256) : ((UInt8.ofNat n).toNat : Int) = (n : Int) := by
  have e : (UInt8.ofNat n).toNat = n % 256 := rfl
  rw [e, Nat.mod_eq_of_lt h]

set_option maxHeartbeats 2000000 in
set_option maxRecDepth 100000 in
theorem bk_name (i k : Nat) (w : World) (hi : i ≤ 1000) (hk : k ≤ 1000000) :
    Calls Tryz.prog 151 #[.int .i64 i, .int .i64 k] w fun e w' => e = .returned (.string (nameT i k)) ∧ Below w.heap.size w w' := by
  have hcv : ∀ W, W = w.alloc (.cells #[.int .u8 109, .int .u8 (65 + (i : Int) % 26), .int .u8 (65 + (i : Int) / 26 % 26), .int .u8 (48 + (k : Int) % 10), .int .u8 (48 + (k : Int) / 10 % 10), .int .u8 (48 + (k : Int) / 100 % 10)] 5) → (convert 186 9 (.slice (some ⟨w.heap.size, 0, none⟩) 6 6)).run Tryz.prog W = .ok (.string (nameT i k)) W := by
    intro W hW
    refine run_convert_bytes_back (P := Tryz.prog) W 186 9 5 ⟨w.heap.size, 0, none⟩ 6 (nameL i k) Tryz.underlying186 Tryz.underlying5 Tryz.underlying9 (fun j hj => ?_)
    have hn := new_cells w [.int .u8 109, .int .u8 (65 + (i : Int) % 26), .int .u8 (65 + (i : Int) / 26 % 26), .int .u8 (48 + (k : Int) % 10), .int .u8 (48 + (k : Int) / 10 % 10), .int .u8 (48 + (k : Int) / 100 % 10)] 5
    have hW' : W = w.alloc (.cells ([.int .u8 109, .int .u8 (65 + (i : Int) % 26), .int .u8 (65 + (i : Int) / 26 % 26), .int .u8 (48 + (k : Int) % 10), .int .u8 (48 + (k : Int) / 10 % 10), .int .u8 (48 + (k : Int) / 100 % 10)] : List Value).toArray 5) := hW
    rw [← hW'] at hn
    have hj6 : j < 6 := hj
    match j, hj6 with
    | 0, _ => exact hn 0 _ rfl
    | 1, _ => rw [hn 1 _ rfl]; show some (Value.int .u8 (65 + (i : Int) % 26)) = some (.int .u8 ((UInt8.ofNat (65 + i % 26)).toNat : Int)); rw [u8_of _ (by omega)]; congr 2
    | 2, _ => rw [hn 2 _ rfl]; show some (Value.int .u8 (65 + (i : Int) / 26 % 26)) = some (.int .u8 ((UInt8.ofNat (65 + i / 26 % 26)).toNat : Int)); rw [u8_of _ (by omega)]; congr 2
    | 3, _ => rw [hn 3 _ rfl]; show some (Value.int .u8 (48 + (k : Int) % 10)) = some (.int .u8 ((UInt8.ofNat (48 + k % 10)).toNat : Int)); rw [u8_of _ (by omega)]; congr 2
    | 4, _ => rw [hn 4 _ rfl]; show some (Value.int .u8 (48 + (k : Int) / 10 % 10)) = some (.int .u8 ((UInt8.ofNat (48 + k / 10 % 10)).toNat : Int)); rw [u8_of _ (by omega)]; congr 2
    | 5, _ => rw [hn 5 _ rfl]; show some (Value.int .u8 (48 + (k : Int) / 100 % 10)) = some (.int .u8 ((UInt8.ofNat (48 + k / 100 % 10)).toNat : Int)); rw [u8_of _ (by omega)]; congr 2
  have hcv2 := hcv _ rfl
  clear hcv
  go_enter Tryz.func151, Tryz.ntmps151
  go_wp2
  go_ret
  exact ⟨rfl, (Below.refl _ w).alloc (Nat.le_refl _) _⟩
end Go.Proofs.YtedcpckocedcoaaGreat
