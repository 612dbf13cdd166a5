/- num.Fix: a number in so many bytes, the lowest first. -/
import Derived.Test.YtedcpckocedcoaaGreatFr
import Derived.OwnWalk
import Derived.Laws.IdiomStrings
import Derived.Laws.BitsLemmas
namespace Go.Proofs.YtedcpckocedcoaaGreat
open Go.RowKit

theorem info_u8 : (Tryz.prog.info? 5).map (fun i => (i.zero, i.size, i.bytes)) = some (some (.int .u8 0), 1, 1) := by kernel_rfl

theorem add_at0 (b j : Nat) : (⟨b, 0, none⟩ : Addr).add j = ⟨b, j, none⟩ := by
  unfold Addr.add
  split
  · rename_i h; rw [h]
  · rw [Nat.zero_add]

def fixL (v n : Nat) : List UInt8 := (List.range n).map fun i => UInt8.ofNat (v / 2 ^ (8 * i) % 256)
def fixS (v n : Nat) : ByteArray := ⟨(fixL v n).toArray⟩
theorem fixL_length (v n : Nat) : (fixL v n).length = n := by simp [fixL]
theorem fixS_size (v n : Nat) : (fixS v n).size = n := by
  show (fixL v n).toArray.size = n
  rw [List.size_toArray, fixL_length]
theorem fixL_at (v n i : Nat) (h : i < (fixL v n).length) : (((fixL v n)[i]).toNat : Int) = (v : Int) / 2 ^ (8 * i) % 256 := by
  simp only [fixL, List.getElem_map, List.getElem_range]
  simp

set_option maxHeartbeats 1000000 in
set_option maxRecDepth 100000 in
theorem num_fix (v n : Nat) (w : World) (hv : v < 2 ^ (8 * n)) (h1 : 1 ≤ n) (h2 : n ≤ 7) (hm : (v : Int) ≤ 9223372036854775807) :
    Calls Tryz.prog 98 #[.int .i64 v, .int .i64 n] w fun e w' => e = .returned (.tuple #[.string (fixS v n), .int .i64 0]) ∧ Below w.heap.size w w' := by
  obtain ⟨i0, hi0, hz0, hz1, hz2⟩ := info_parts info_u8
  have hsh : ((v : Int) / 2 ^ (8 * n)) = 0 := by
    have : ((v / 2 ^ (8 * n) : Nat) : Int) = 0 := by rw [Nat.div_eq_of_lt hv]; rfl
    simpa using this
  clear hv
  go_enter Tryz.func98, Tryz.ntmps98
  go_wp2_with (refine wpList_make_full _ rfl _ _ _ rfl w.heap.size 5 i0 _ 1 Tryz.underlying186 hi0 hz0 hz1 .i64 .i64 n n n rfl rfl rfl rfl (by rw [hz2]; omega) (by unfold maxLen; omega) (Nat.le_refl _) ?_; intro w1 how hgr; have HO := Lib.hid how; have HG := Lib.hid hgr; clear how hgr)
  have HB1 : Hid (Below w.heap.size w w1) := (Below.refl _ w).grown HG.out (Nat.le_refl _) (fun k hk => by cases hk)
  have HST : Hid (∃ xs : List Value, xs.length = n ∧ w1.ownsRow w.heap.size 5 1 (.slice (some ⟨w.heap.size, 0, none⟩) n n) n xs) := ⟨_, by have := HO.out.1; simpa using this, HO.out⟩
  clear HO HG hi0 hz0 hz1 hz2
  go_loopw [29] (fun iv wr => ∃ i : Nat, i ≤ n ∧ iv = .int .i64 i ∧ Below w.heap.size w wr ∧ ∃ xs : List Value, xs.length = n ∧ wr.ownsRow w.heap.size 5 1 (.slice (some ⟨w.heap.size, 0, none⟩) n n) n xs ∧ ∀ j, j < i → xs[j]? = some (.int .u8 ((v : Int) / 2 ^ (8 * j) % 256))) (fun iv _ => n - (intOf iv).toNat)
  case atStart =>
    obtain ⟨xs, hx, ho⟩ := HST.out
    exact ⟨0, by omega, rfl, HB1.out, xs, hx, ho, fun j hj => by omega⟩
  case round =>
    clear HST HB1
    obtain ⟨i, hi, rfl, hb1, xs, hx, ho, hall⟩ := hrel
    have HB := Lib.hid hb1
    have HO := Lib.hid ho
    have HX := Lib.hid hx
    have HALL := Lib.hid hall
    clear hb1 ho hx hall
    by_cases hlt : i < n
    · have hcell : ∃ u, wr.cell? ⟨w.heap.size, i, none⟩ = some u := by
        obtain ⟨u, hu⟩ : ∃ u, xs[i]? = some u := ⟨_, List.getElem?_eq_getElem (by rw [HX.out]; exact hlt)⟩
        have e := HO.out.cells (g := w.heap.size) rfl i u hu
        rw [add_at0] at e
        exact ⟨u, e⟩
      obtain ⟨u, hcell⟩ := hcell
      have hfz := HO.out.frozenAt i
      have HS := Lib.hid (HO.out.stored i (.int .u8 ((v : Int) / 2 ^ (8 * i) % 256)))
      have hsz := HB.out.size
      go_wp2
      go_roundw
      case rel =>
        refine ⟨i + 1, by omega, by go_num, HB.out.setCell (p := ⟨w.heap.size, i, none⟩) (Nat.le_refl _) _, xs.set i (.int .u8 ((v : Int) / 2 ^ (8 * i) % 256)), by rw [List.length_set]; exact HX.out, HS.out.1, fun j hj => ?_⟩
        rw [List.getElem?_set]
        by_cases e : i = j
        · rw [if_pos e, if_pos (by rw [HX.out]; exact hlt), e]
        · rw [if_neg e]; exact HALL.out j (by omega)
      case measure => simp [intOf]; omega
    · obtain rfl : i = n := by omega
      have hcv : (convert 186 9 (.slice (some ⟨w.heap.size, 0, none⟩) i i)).run Tryz.prog wr = .ok (.string (fixS v i)) wr := by
        have e := run_convert_bytes_back (P := Tryz.prog) wr 186 9 5 ⟨w.heap.size, 0, none⟩ i (fixL v i) Tryz.underlying186 Tryz.underlying5 Tryz.underlying9 (fun j hj => by
          refine HO.out.cells (g := w.heap.size) rfl j _ ?_
          rw [fixL_at v i j hj]
          exact HALL.out j (by rw [fixL_length] at hj; exact hj))
        rw [fixL_length] at e
        exact e
      go_wp2
      go_ret2
      exact ⟨rfl, HB.out⟩

set_option maxHeartbeats 1000000 in
set_option maxRecDepth 100000 in
theorem num_fix_bad (v : Int) (n : Nat) (w : World) (hv : v < 0 ∨ ((2 ^ (8 * n) : Nat) : Int) ≤ v) (h1 : 1 ≤ n) (h2 : n ≤ 7) :
    Calls Tryz.prog 98 #[.int .i64 v, .int .i64 n] w fun e w' => e = .returned (.tuple #[.string ByteArray.empty, .int .i64 1]) ∧ w' = w := by
  by_cases h0 : v < 0
  · clear hv
    go_enter Tryz.func98, Tryz.ntmps98
    go_wp2
    go_ret2
    exact ⟨rfl, rfl⟩
  · have hsh : (v / 2 ^ (8 * n) != 0) = true := by
      have h3 := hv.resolve_left h0
      have hp : (0 : Int) < ((2 ^ (8 * n) : Nat) : Int) := by have := Nat.two_pow_pos (8 * n); omega
      have : 1 ≤ v / ((2 ^ (8 * n) : Nat) : Int) := by
        rw [Int.le_ediv_iff_mul_le hp]
        omega
      have e : ((2 ^ (8 * n) : Nat) : Int) = 2 ^ (8 * n) := by simp
      rw [e] at this
      rw [bne_iff_ne]
      omega
    clear hv
    go_enter Tryz.func98, Tryz.ntmps98
    go_wp2
    go_ret2
    exact ⟨rfl, rfl⟩
end Go.Proofs.YtedcpckocedcoaaGreat
