/- arboretumref1's Fix and Unfix. -/
import Derived.Test.YtedcpckocedcoaaGreatFix
import Derived.Test.YtedcpckocedcoaaGreatUnfix
namespace Go.Proofs.YtedcpckocedcoaaGreat
open Go.RowKit

theorem unfix_byte (b : ByteArray) (at' : Nat) : ∀ n i, i < n → unfixN b at' n / 2 ^ (8 * i) % 256 = byteAt b (at' + i)
  | 0, i, h => by omega
  | n + 1, i, h => by
    show (unfixN b at' n + byteAt b (at' + n) * 2 ^ (8 * n)) / 2 ^ (8 * i) % 256 = _
    by_cases hi : i = n
    · subst hi
      rw [Nat.add_mul_div_right _ _ (Nat.two_pow_pos _), Nat.div_eq_of_lt (unfixN_lt b at' i), Nat.zero_add, Nat.mod_eq_of_lt (byteAt_lt _ _)]
    · have e : 8 * n = 8 * i + 8 * (n - i - 1) + 8 := by omega
      have e2 : byteAt b (at' + n) * 2 ^ (8 * n) = (byteAt b (at' + n) * 2 ^ (8 * (n - i - 1)) * 256) * 2 ^ (8 * i) := by
        rw [e, Nat.pow_add, Nat.pow_add]
        simp only [Nat.reducePow, Nat.mul_assoc, Nat.mul_comm, Nat.mul_left_comm]
      rw [e2, Nat.add_mul_div_right _ _ (Nat.two_pow_pos _), Nat.add_mul_mod_self_right]
      exact unfix_byte b at' n i (by omega)

def fcells (v i : Nat) : List Value := (List.range i).map fun j => .int .u8 ((v : Int) / 2 ^ (8 * j) % 256)
theorem fcells_succ (v i : Nat) : fcells v (i + 1) = fcells v i ++ [.int .u8 ((v : Int) / 2 ^ (8 * i) % 256)] := by
  unfold fcells
  rw [List.range_succ, List.map_append]
  rfl

theorem pow_next (v i : Nat) : v / 2 ^ (8 * (i + 1)) = v / 2 ^ (8 * i) / 256 := by
  rw [Nat.div_div_eq_div_mul, show 8 * (i + 1) = 8 * i + 8 by omega, Nat.pow_add]

set_option maxHeartbeats 1000000 in
set_option maxRecDepth 100000 in
theorem ref_fix (v n : Nat) (w : World) (hv : v < 2 ^ (8 * n)) (h1 : 1 ≤ n) (h2 : n ≤ 7) (hm : (v : Int) ≤ 9223372036854775807) :
    Calls Tryz.prog 99 #[.int .i64 v, .int .i64 n] w fun e w' => e = .returned (.tuple #[.string (fixS v n), .int .i64 0]) ∧ Below w.heap.size w w' := by
  obtain ⟨i0, hi0, hz0, hz1, hz2⟩ := info_parts info_u8
  have HV0 : Hid (v / 2 ^ (8 * n) = 0) := Lib.hid (Nat.div_eq_of_lt hv)
  clear hv
  go_enter Tryz.func99, Tryz.ntmps99
  go_wp2
  go_loopw [0, 6, 7] (fun vv bv iv wr => ∃ i : Nat, i ≤ n ∧ iv = .int .i64 i ∧ vv = .int .i64 (v / 2 ^ (8 * i) : Nat) ∧ Below w.heap.size w wr ∧ wr.ownsRow w.heap.size 5 1 bv i (fcells v i)) (fun _ _ iv _ => n - (intOf iv).toNat)
  case atStart => exact ⟨0, by omega, rfl, by simp, Below.refl _ _, World.ownsRow_nil _ _ _ _⟩
  case round =>
    obtain ⟨i, hi, rfl, rfl, hb, ho⟩ := hrel
    obtain ⟨q, cp, rfl⟩ := owns_slice ho
    have HB := Lib.hid hb
    have HO := Lib.hid ho
    have hsz := hb.size
    clear hb ho
    by_cases hlt : i < n
    · have HN : Hid (fcells v (i + 1) = fcells v i ++ [.int .u8 (((v / 2 ^ (8 * i) : Nat) : Int) % 256)]) := Lib.hid (by rw [fcells_succ]; simp)
      have HP : Hid (v / 2 ^ (8 * (i + 1)) = v / 2 ^ (8 * i) / 256) := Lib.hid (pow_next v i)
      have hvi : ((v / 2 ^ (8 * i) : Nat) : Int) ≤ 9223372036854775807 := by
        have : v / 2 ^ (8 * i) ≤ v := Nat.div_le_self _ _
        omega
      generalize v / 2 ^ (8 * i) = x at *
      go_wp2_with (at_builtin; refine wpList_append_own _ rfl _ _ 186 rfl w.heap.size 5 i0 _ 1 1 Tryz.underlying186 hi0 hz0 hz1 hz2 rfl (by omega) (.slice q i cp) i (fcells v i) rfl ?own ⟨wr.heap.size, 0, none⟩ 1 1 [.int .u8 ((x : Int) % 256)] rfl rfl ?cells ?one ?len ?bytes ?base ?_; (case own => exact HO.out.alloc _); (case cells => exact new_cells wr _ _); (case one => simp [Value.oneCell']); (case len => unfold maxLen; omega); (case bytes => omega); (case base => simp; omega); intro v8 w8 hown hgr _; have HOW := Lib.hid hown; have HGR := Lib.hid hgr; clear hown hgr)
      have HBE : Hid (Below w.heap.size w w8) := Lib.hid ((HB.out.alloc hsz _).grown HGR.out (by simp; omega) (fun g hg => (HO.out.lt g hg).1))
      have HOE : Hid (w8.ownsRow w.heap.size 5 1 v8 (i + 1) (fcells v (i + 1))) := Lib.hid (by rw [HN.out]; exact HOW.out)
      clear HOW HGR HO HB
      go_wp2
      go_roundw
      case rel => exact ⟨i + 1, by omega, by go_num, by rw [HP.out]; simp, HBE.out, HOE.out⟩
      case measure => simp [intOf]; omega
    · obtain rfl : i = n := by omega
      rw [HV0.out]
      obtain ⟨g, cq, hvq, hgb, hgl, _⟩ := owns_len HO.out (by omega)
      injection hvq with hvq1 _ hvq2
      subst hvq1 hvq2
      have hcv : (convert 186 9 (.slice (some ⟨g, 0, none⟩) i cp)).run Tryz.prog wr = .ok (.string (fixS v i)) wr := by
        have e := run_convert_bytes_back (P := Tryz.prog) wr 186 9 5 ⟨g, 0, none⟩ cp (fixL v i) Tryz.underlying186 Tryz.underlying5 Tryz.underlying9 (fun j hj => by
          have hj2 : j < i := by rw [fixL_length] at hj; exact hj
          refine HO.out.cells (g := g) rfl j _ ?_
          rw [fixL_at v i j hj]
          unfold fcells
          rw [List.getElem?_map, List.getElem?_range hj2]
          rfl)
        rw [fixL_length] at e
        exact e
      go_wp2
      go_ret2
      exact ⟨rfl, HB.out⟩

set_option maxHeartbeats 1000000 in
set_option maxRecDepth 100000 in
theorem ref_unfix (b : ByteArray) (at' n : Nat) (w : World) (h : at' + n ≤ b.size) (h1 : 1 ≤ n) (h2 : n ≤ 7) (hb : b.size ≤ 1000000) :
    Calls Tryz.prog 101 #[.string b, .int .i64 at', .int .i64 n] w fun e w' => e = .returned (.tuple #[.int .i64 (unfixN b at' n : Nat), .int .i64 0]) ∧ w' = w := by
  have e0 : ¬ ((b.size : Int) < (n : Int)) := by omega
  have e1 : ¬ ((b.size : Int) - (n : Int) < (at' : Int)) := by omega
  have HU := Lib.hid (unfixN_lt b at' n)
  go_enter Tryz.func101, Tryz.ntmps101
  go_wp2
  go_loop [8, 9] (fun vv iv => ∃ j : Nat, j ≤ n ∧ iv = .int .i64 ((j : Int) - 1) ∧ vv = .int .i64 (unfixN b at' n / 2 ^ (8 * j) : Nat)) (fun _ iv => (intOf iv + 1).toNat)
  case atStart => exact ⟨n, by omega, rfl, by rw [Nat.div_eq_of_lt HU.out]; rfl⟩
  case round =>
    obtain ⟨j, hj, rfl, rfl⟩ := hrel
    cases j with
    | zero =>
      go_wp2
      go_ret2
      exact ⟨by simp, rfl⟩
    | succ j =>
      have hbg := byteAt_get b (at' + j) (by omega)
      have HBY := Lib.hid (unfix_byte b at' n j (by omega))
      have hbl := byteAt_lt b (at' + j)
      have HP := Lib.hid (pow_next (unfixN b at' n) j)
      have hle : unfixN b at' n / 2 ^ (8 * (j + 1)) < 36028797018963968 := by
        rw [HP.out]
        have h3 : unfixN b at' n / 2 ^ (8 * j) ≤ unfixN b at' n := Nat.div_le_self _ _
        have h4 : 2 ^ (8 * n) ≤ 2 ^ 56 := Nat.pow_le_pow_right (by omega) (by omega)
        have := HU.out
        omega
      rw [show (((j + 1 : Nat) : Int) - 1) = (j : Int) by omega]
      have HX : Hid (unfixN b at' n / 2 ^ (8 * j) = unfixN b at' n / 2 ^ (8 * (j + 1)) * 256 + byteAt b (at' + j)) := Lib.hid (by rw [HP.out, ← HBY.out]; omega)
      generalize unfixN b at' n / 2 ^ (8 * (j + 1)) = x at *
      generalize byteAt b (at' + j) = y at *
      have hw : wrap64 ((x : Int) * 256 + (y : Int)) = (x : Int) * 256 + (y : Int) := by unfold wrap64; omega
      have HLE := Lib.hid hle
      go_wp2
      go_round
      case rel => exact ⟨j, by omega, rfl, by rw [HX.out]; simp⟩
      case measure => simp [intOf]
set_option maxHeartbeats 1000000 in
set_option maxRecDepth 100000 in
theorem ref_fix_big (v n : Nat) (w : World) (hv : ¬ v < 2 ^ (8 * n)) (h1 : 1 ≤ n) (h2 : n ≤ 7) (hm : (v : Int) ≤ 9223372036854775807) :
    Calls Tryz.prog 99 #[.int .i64 v, .int .i64 n] w fun e w' => e = .returned (.tuple #[.string ByteArray.empty, .int .i64 1]) ∧ Below w.heap.size w w' := by
  obtain ⟨i0, hi0, hz0, hz1, hz2⟩ := info_parts info_u8
  have HV0 : Hid (0 < v / 2 ^ (8 * n)) := Lib.hid (Nat.div_pos (by omega) (Nat.pow_pos (by omega)))
  clear hv
  go_enter Tryz.func99, Tryz.ntmps99
  go_wp2
  go_loopw [0, 6, 7] (fun vv bv iv wr => ∃ i : Nat, i ≤ n ∧ iv = .int .i64 i ∧ vv = .int .i64 (v / 2 ^ (8 * i) : Nat) ∧ Below w.heap.size w wr ∧ wr.ownsRow w.heap.size 5 1 bv i (fcells v i)) (fun _ _ iv _ => n - (intOf iv).toNat)
  case atStart => exact ⟨0, by omega, rfl, by simp, Below.refl _ _, World.ownsRow_nil _ _ _ _⟩
  case round =>
    obtain ⟨i, hi, rfl, rfl, hb, ho⟩ := hrel
    obtain ⟨q, cp, rfl⟩ := owns_slice ho
    have HB := Lib.hid hb
    have HO := Lib.hid ho
    have hsz := hb.size
    clear hb ho
    by_cases hlt : i < n
    · have HN : Hid (fcells v (i + 1) = fcells v i ++ [.int .u8 (((v / 2 ^ (8 * i) : Nat) : Int) % 256)]) := Lib.hid (by rw [fcells_succ]; simp)
      have HP : Hid (v / 2 ^ (8 * (i + 1)) = v / 2 ^ (8 * i) / 256) := Lib.hid (pow_next v i)
      have hvi : ((v / 2 ^ (8 * i) : Nat) : Int) ≤ 9223372036854775807 := by
        have : v / 2 ^ (8 * i) ≤ v := Nat.div_le_self _ _
        omega
      generalize v / 2 ^ (8 * i) = x at *
      go_wp2_with (at_builtin; refine wpList_append_own _ rfl _ _ 186 rfl w.heap.size 5 i0 _ 1 1 Tryz.underlying186 hi0 hz0 hz1 hz2 rfl (by omega) (.slice q i cp) i (fcells v i) rfl ?own ⟨wr.heap.size, 0, none⟩ 1 1 [.int .u8 ((x : Int) % 256)] rfl rfl ?cells ?one ?len ?bytes ?base ?_; (case own => exact HO.out.alloc _); (case cells => exact new_cells wr _ _); (case one => simp [Value.oneCell']); (case len => unfold maxLen; omega); (case bytes => omega); (case base => simp; omega); intro v8 w8 hown hgr _; have HOW := Lib.hid hown; have HGR := Lib.hid hgr; clear hown hgr)
      have HBE : Hid (Below w.heap.size w w8) := Lib.hid ((HB.out.alloc hsz _).grown HGR.out (by simp; omega) (fun g hg => (HO.out.lt g hg).1))
      have HOE : Hid (w8.ownsRow w.heap.size 5 1 v8 (i + 1) (fcells v (i + 1))) := Lib.hid (by rw [HN.out]; exact HOW.out)
      clear HOW HGR HO HB
      go_wp2
      go_roundw
      case rel => exact ⟨i + 1, by omega, by go_num, by rw [HP.out]; simp, HBE.out, HOE.out⟩
      case measure => simp [intOf]; omega
    · obtain rfl : i = n := by omega
      have hx := HV0.out
      generalize v / 2 ^ (8 * i) = x at *
      have hxI : (0 : Int) < (x : Int) := by omega
      go_wp2
      go_ret2
      exact ⟨rfl, HB.out⟩

set_option maxRecDepth 100000 in
theorem ref_fix_neg (v : Int) (n : Nat) (w : World) (hv : v < 0) (h1 : 1 ≤ n) (h2 : n ≤ 7) : Calls Tryz.prog 99 #[.int .i64 v, .int .i64 n] w fun e w' => e = .returned (.tuple #[.string ByteArray.empty, .int .i64 1]) ∧ Below w.heap.size w w' := by
  go_enter Tryz.func99, Tryz.ntmps99
  go_wp2
  go_ret2
  exact ⟨rfl, Below.refl _ _⟩

/-- What fits into four bytes. -/
def ok32 (v : Int) : Prop := 0 ≤ v ∧ v < 4294967296
instance (v : Int) : Decidable (ok32 v) := by unfold ok32; infer_instance
theorem ref_fix4_bad (v : Int) (w : World) (hv : ¬ ok32 v) (hm : v ≤ 9223372036854775807) : Calls Tryz.prog 99 #[.int .i64 v, .int .i64 4] w fun e w' => e = .returned (.tuple #[.string ByteArray.empty, .int .i64 1]) ∧ Below w.heap.size w w' := by
  rcases Int.lt_or_le v 0 with h | h
  · exact ref_fix_neg v 4 w h (by omega) (by omega)
  · obtain ⟨u, rfl⟩ := Int.eq_ofNat_of_zero_le h
    exact ref_fix_big u 4 w (by unfold ok32 at hv; omega) (by omega) (by omega) hm
theorem num_fix4_bad (v : Int) (w : World) (hv : ¬ ok32 v) : Calls Tryz.prog 98 #[.int .i64 v, .int .i64 4] w fun e w' => e = .returned (.tuple #[.string ByteArray.empty, .int .i64 1]) ∧ Below w.heap.size w w' :=
  (num_fix_bad v 4 w (by unfold ok32 at hv; omega) (by omega) (by omega)).mono fun e w' h => ⟨h.1, by rw [h.2]; exact Below.refl _ _⟩
/-- Four bytes of a number. -/
def f4 (v : Int) : ByteArray := fixS v.toNat 4
theorem num_fix4 (v : Int) (w : World) (hv : ok32 v) : Calls Tryz.prog 98 #[.int .i64 v, .int .i64 4] w fun e w' => e = .returned (.tuple #[.string (f4 v), .int .i64 0]) ∧ Below w.heap.size w w' := by
  obtain ⟨u, rfl⟩ := Int.eq_ofNat_of_zero_le hv.1
  have := hv.2
  exact num_fix u 4 w (by omega) (by omega) (by omega) (by omega)
theorem ref_fix4 (v : Int) (w : World) (hv : ok32 v) : Calls Tryz.prog 99 #[.int .i64 v, .int .i64 4] w fun e w' => e = .returned (.tuple #[.string (f4 v), .int .i64 0]) ∧ Below w.heap.size w w' := by
  obtain ⟨u, rfl⟩ := Int.eq_ofNat_of_zero_le hv.1
  have := hv.2
  exact ref_fix u 4 w (by omega) (by omega) (by omega) (by omega)
theorem f4_size (v : Int) : (f4 v).size = 4 := fixS_size _ _
end Go.Proofs.YtedcpckocedcoaaGreat
