/- Merged texts: Fix Unfix Crc Build Seal. -/
import Derived.Test.YtlocadmiomglaaaGreatDoorB1
import Derived.OwnWalk
import Derived.Laws.IdiomStrings
import Derived.Laws.BitsLemmas
import Derived.Test.YtlocadmiomglaaaGreatDoorShelf
import Derived.Shelf.Strings.BuilderK
/- num.Fix: a number in so many bytes, the lowest first. -/
namespace Go.Proofs.YtlocadmiomglaaaGreatDoor
open Go.RowKit

theorem info_u8 : (Tryz.prog.info? 5).map (fun i => (i.zero, i.size, i.bytes)) = some (some (.int .u8 0), 1, 1) := by kernel_rfl

theorem add_at0 (b j : Nat) : (⟨b, 0, none⟩ : Addr).add j = ⟨b, j, none⟩ := by
  unfold Addr.add
  split
  · rename_i h; rw [h]
  · rw [Nat.zero_add]

def fixL (v n : Nat) : List UInt8 := (List.range n).map fun i => UInt8.ofNat (v / 2 ^ (8 * i) % 256)
def fixS (v n : Nat) : ByteArray := ⟨(fixL v n).toArray⟩
theorem fixL_length (v n : Nat) : (fixL v n).length = n := by simp [fixL]
theorem fixS_size (v n : Nat) : (fixS v n).size = n := by
  show (fixL v n).toArray.size = n
  rw [List.size_toArray, fixL_length]
theorem fixL_at (v n i : Nat) (h : i < (fixL v n).length) : (((fixL v n)[i]).toNat : Int) = (v : Int) / 2 ^ (8 * i) % 256 := by
  simp only [fixL, List.getElem_map, List.getElem_range]
  simp

set_option maxHeartbeats 1000000 in
set_option maxRecDepth 100000 in
theorem num_fix (v n : Nat) (w : World) (hv : v < 2 ^ (8 * n)) (h1 : 1 ≤ n) (h2 : n ≤ 7) (hm : (v : Int) ≤ 9223372036854775807) :
    Calls Tryz.prog 175 #[.int .i64 v, .int .i64 n] w fun e w' => e = .returned (.tuple #[.string (fixS v n), .int .i64 0]) ∧ Below w.heap.size w w' := by
  obtain ⟨i0, hi0, hz0, hz1, hz2⟩ := info_parts info_u8
  have hsh : ((v : Int) / 2 ^ (8 * n)) = 0 := by
    have : ((v / 2 ^ (8 * n) : Nat) : Int) = 0 := by rw [Nat.div_eq_of_lt hv]; rfl
    simpa using this
  clear hv
  go_enter Tryz.func175, Tryz.ntmps175
  go_wp2_with (refine wpList_make_full _ rfl _ _ _ rfl w.heap.size 5 i0 _ 1 Tryz.underlying90 hi0 hz0 hz1 .i64 .i64 n n n rfl rfl rfl rfl (by rw [hz2]; omega) (by unfold maxLen; omega) (Nat.le_refl _) ?_; intro w1 how hgr; have HO := Lib.hid how; have HG := Lib.hid hgr; clear how hgr)
  have HB1 : Hid (Below w.heap.size w w1) := (Below.refl _ w).grown HG.out (Nat.le_refl _) (fun k hk => by cases hk)
  have HST : Hid (∃ xs : List Value, xs.length = n ∧ w1.ownsRow w.heap.size 5 1 (.slice (some ⟨w.heap.size, 0, none⟩) n n) n xs) := ⟨_, by have := HO.out.1; simpa using this, HO.out⟩
  clear HO HG hi0 hz0 hz1 hz2
  go_loopw [29] (fun iv wr => ∃ i : Nat, i ≤ n ∧ iv = .int .i64 i ∧ Below w.heap.size w wr ∧ ∃ xs : List Value, xs.length = n ∧ wr.ownsRow w.heap.size 5 1 (.slice (some ⟨w.heap.size, 0, none⟩) n n) n xs ∧ ∀ j, j < i → xs[j]? = some (.int .u8 ((v : Int) / 2 ^ (8 * j) % 256))) (fun iv _ => n - (intOf iv).toNat)
  case atStart =>
    obtain ⟨xs, hx, ho⟩ := HST.out
    exact ⟨0, by omega, rfl, HB1.out, xs, hx, ho, fun j hj => by omega⟩
  case round =>
    clear HST HB1
    obtain ⟨i, hi, rfl, hb1, xs, hx, ho, hall⟩ := hrel
    have HB := Lib.hid hb1
    have HO := Lib.hid ho
    have HX := Lib.hid hx
    have HALL := Lib.hid hall
    clear hb1 ho hx hall
    by_cases hlt : i < n
    · have hcell : ∃ u, wr.cell? ⟨w.heap.size, i, none⟩ = some u := by
        obtain ⟨u, hu⟩ : ∃ u, xs[i]? = some u := ⟨_, List.getElem?_eq_getElem (by rw [HX.out]; exact hlt)⟩
        have e := HO.out.cells (g := w.heap.size) rfl i u hu
        rw [add_at0] at e
        exact ⟨u, e⟩
      obtain ⟨u, hcell⟩ := hcell
      have hfz := HO.out.frozenAt i
      have HS := Lib.hid (HO.out.stored i (.int .u8 ((v : Int) / 2 ^ (8 * i) % 256)))
      have hsz := HB.out.size
      go_wp2
      go_roundw
      case rel =>
        refine ⟨i + 1, by omega, by go_num, HB.out.setCell (p := ⟨w.heap.size, i, none⟩) (Nat.le_refl _) _, xs.set i (.int .u8 ((v : Int) / 2 ^ (8 * i) % 256)), by rw [List.length_set]; exact HX.out, HS.out.1, fun j hj => ?_⟩
        rw [List.getElem?_set]
        by_cases e : i = j
        · rw [if_pos e, if_pos (by rw [HX.out]; exact hlt), e]
        · rw [if_neg e]; exact HALL.out j (by omega)
      case measure => simp [intOf]; omega
    · obtain rfl : i = n := by omega
      have hcv : (convert 90 9 (.slice (some ⟨w.heap.size, 0, none⟩) i i)).run Tryz.prog wr = .ok (.string (fixS v i)) wr := by
        have e := run_convert_bytes_back (P := Tryz.prog) wr 90 9 5 ⟨w.heap.size, 0, none⟩ i (fixL v i) Tryz.underlying90 Tryz.underlying5 Tryz.underlying9 (fun j hj => by
          refine HO.out.cells (g := w.heap.size) rfl j _ ?_
          rw [fixL_at v i j hj]
          exact HALL.out j (by rw [fixL_length] at hj; exact hj))
        rw [fixL_length] at e
        exact e
      go_wp2
      go_ret2
      exact ⟨rfl, HB.out⟩

set_option maxHeartbeats 1000000 in
set_option maxRecDepth 100000 in
theorem num_fix_bad (v : Int) (n : Nat) (w : World) (hv : v < 0 ∨ ((2 ^ (8 * n) : Nat) : Int) ≤ v) (h1 : 1 ≤ n) (h2 : n ≤ 7) :
    Calls Tryz.prog 175 #[.int .i64 v, .int .i64 n] w fun e w' => e = .returned (.tuple #[.string ByteArray.empty, .int .i64 1]) ∧ w' = w := by
  by_cases h0 : v < 0
  · clear hv
    go_enter Tryz.func175, Tryz.ntmps175
    go_wp2
    go_ret2
    exact ⟨rfl, rfl⟩
  · have hsh : (v / 2 ^ (8 * n) != 0) = true := by
      have h3 := hv.resolve_left h0
      have hp : (0 : Int) < ((2 ^ (8 * n) : Nat) : Int) := by have := Nat.two_pow_pos (8 * n); omega
      have : 1 ≤ v / ((2 ^ (8 * n) : Nat) : Int) := by
        rw [Int.le_ediv_iff_mul_le hp]
        omega
      have e : ((2 ^ (8 * n) : Nat) : Int) = 2 ^ (8 * n) := by simp
      rw [e] at this
      rw [bne_iff_ne]
      omega
    clear hv
    go_enter Tryz.func175, Tryz.ntmps175
    go_wp2
    go_ret2
    exact ⟨rfl, rfl⟩
end Go.Proofs.YtlocadmiomglaaaGreatDoor

/- num.Unfix: a number out of so many bytes. -/
namespace Go.Proofs.YtlocadmiomglaaaGreatDoor
open Go.RowKit

def byteAt (b : ByteArray) (i : Nat) : Nat := (b.data.getD i 0).toNat
theorem byteAt_lt (b : ByteArray) (i : Nat) : byteAt b i < 256 := by unfold byteAt; exact UInt8.toNat_lt _
theorem byteAt_get (b : ByteArray) (i : Nat) (h : i < b.size) : (b[i].toNat : Int) = (byteAt b i : Nat) := by
  unfold byteAt
  rw [Array.getD_eq_getD_getElem?, Array.getElem?_eq_getElem h]
  rfl
def unfixN (b : ByteArray) (at' : Nat) : Nat → Nat
  | 0 => 0
  | i + 1 => unfixN b at' i + byteAt b (at' + i) * 2 ^ (8 * i)
theorem unfixN_lt (b : ByteArray) (at' n : Nat) : unfixN b at' n < 2 ^ (8 * n) := by
  induction n with
  | zero => simp [unfixN]
  | succ n ih =>
    have h1 := byteAt_lt b (at' + n)
    have h2 : byteAt b (at' + n) * 2 ^ (8 * n) ≤ 255 * 2 ^ (8 * n) := Nat.mul_le_mul_right _ (by omega)
    have e : 2 ^ (8 * (n + 1)) = 256 * 2 ^ (8 * n) := by rw [show 8 * (n + 1) = 8 + 8 * n by omega, Nat.pow_add]
    unfold unfixN
    omega

theorem i64_small (n : Nat) (h : n < 2 ^ 63) : IntKind.i64.wrap (n : Int) = n := by
  rw [IntKind.wrap_i64]
  omega

theorem i64_or (a z : Nat) (ha : a < 2 ^ 63) (hz : z < 2 ^ 63) : bits .or .i64 (a : Int) (z : Int) = ((a ||| z : Nat) : Int) := by
  have e1 : (BitVec.ofInt 64 (a : Int)).toNat = a := by rw [BitVec.toNat_ofInt]; omega
  have e2 : (BitVec.ofInt 64 (z : Int)).toNat = z := by rw [BitVec.toNat_ofInt]; omega
  have key : (BitVec.ofInt 64 (a : Int) ||| BitVec.ofInt 64 (z : Int)).toNat = a ||| z := by rw [BitVec.toNat_or, e1, e2]
  show IntKind.i64.wrap ((BitVec.ofInt 64 (a : Int) ||| BitVec.ofInt 64 (z : Int)).toNat : Nat) = _
  rw [key]
  exact i64_small _ (Nat.or_lt_two_pow ha hz)

theorem unfix_step (a y i : Nat) (ha : a < 2 ^ (8 * i)) (hy : y < 256) (hi : i < 7) : bits .or .i64 (a : Int) (wrap64 ((y : Int) * 2 ^ (8 * i))) = ((a + y * 2 ^ (8 * i) : Nat) : Int) := by
  have hp : 2 ^ (8 * i) ≤ 2 ^ 48 := Nat.pow_le_pow_right (by omega) (by omega)
  have hz : y * 2 ^ (8 * i) < 2 ^ 63 := by
    have : y * 2 ^ (8 * i) ≤ 255 * 2 ^ 48 := Nat.mul_le_mul (by omega) hp
    omega
  have e : (y : Int) * 2 ^ (8 * i) = ((y * 2 ^ (8 * i) : Nat) : Int) := by simp
  have ew : wrap64 (((y * 2 ^ (8 * i) : Nat) : Int)) = ((y * 2 ^ (8 * i) : Nat) : Int) := by unfold wrap64; omega
  rw [e, ew, i64_or a _ (by omega) hz]
  have h := Nat.two_pow_add_eq_or_of_lt ha y
  rw [Nat.or_comm, Nat.mul_comm y, ← h, Nat.add_comm]

set_option maxHeartbeats 1000000 in
set_option maxRecDepth 100000 in
theorem num_unfix (b : ByteArray) (at' n : Nat) (w : World) (h : at' + n ≤ b.size) (h1 : 1 ≤ n) (h2 : n ≤ 7) (hb : b.size ≤ 1000000) :
    Calls Tryz.prog 206 #[.string b, .int .i64 at', .int .i64 n] w fun e w' => e = .returned (.tuple #[.int .i64 (unfixN b at' n : Nat), .int .i64 0]) ∧ w' = w := by
  have e0 : ¬ ((b.size : Int) < (at' : Int)) := by omega
  have e1 : ¬ ((b.size : Int) - (at' : Int) < (n : Int)) := by omega
  go_enter Tryz.func206, Tryz.ntmps206
  go_wp2
  go_loop [8, 35] (fun vv iv => ∃ i : Nat, i ≤ n ∧ iv = .int .i64 i ∧ vv = .int .i64 (unfixN b at' i : Nat)) (fun _ iv => n - (intOf iv).toNat)
  case atStart => exact ⟨0, by omega, rfl, rfl⟩
  case round =>
    obtain ⟨i, hi, rfl, rfl⟩ := hrel
    by_cases hlt : i < n
    · have hix : at' + i < b.size := by omega
      have hbg := byteAt_get b (at' + i) hix
      have hbl := byteAt_lt b (at' + i)
      have hul := unfixN_lt b at' i
      have HU : Hid (unfixN b at' (i + 1) = unfixN b at' i + byteAt b (at' + i) * 2 ^ (8 * i)) := Lib.hid rfl
      have HSTP := Lib.hid (unfix_step _ _ i hul hbl (by omega))
      go_wp2
      go_round
      case rel => exact ⟨i + 1, by omega, by go_num, by rw [HSTP.out, HU.out]⟩
      case measure => simp [intOf]; omega
    · obtain rfl : i = n := by omega
      go_wp2
      go_ret2
      exact ⟨rfl, rfl⟩
end Go.Proofs.YtlocadmiomglaaaGreatDoor

/- num.Crc of one text. -/
namespace Go.Proofs.YtlocadmiomglaaaGreatDoor
open Go.RowKit

def crcBit (x : Nat) : Nat := if x % 2 = 1 then (x / 2) ^^^ 3988292384 else x / 2
def crcBits (x : Nat) : Nat → Nat
  | 0 => x
  | k + 1 => crcBit (crcBits x k)
def crcN (s : ByteArray) : Nat → Nat
  | 0 => 4294967295
  | i + 1 => crcBits (crcN s i ^^^ byteAt s i) 8
/-- A check sum. -/
def crcS (s : ByteArray) : Nat := 4294967295 - crcN s s.size

theorem crcBit_lt (x : Nat) (h : x < 2 ^ 32) : crcBit x < 2 ^ 32 := by
  unfold crcBit
  split
  · exact Nat.xor_lt_two_pow (by omega) (by omega)
  · omega
theorem crcBits_lt (x k : Nat) (h : x < 2 ^ 32) : crcBits x k < 2 ^ 32 := by
  induction k with
  | zero => exact h
  | succ k ih => exact crcBit_lt _ ih
theorem crcN_lt (s : ByteArray) (i : Nat) : crcN s i < 2 ^ 32 := by
  induction i with
  | zero => show 4294967295 < 2 ^ 32; omega
  | succ i ih => exact crcBits_lt _ _ (Nat.xor_lt_two_pow ih (Nat.lt_of_lt_of_le (byteAt_lt s i) (by omega)))

theorem u32_small (n : Nat) (h : n < 2 ^ 32) : IntKind.u32.wrap (n : Int) = n := by
  rw [IntKind.wrap_u32]
  omega
theorem u32_xor (a z : Nat) (ha : a < 2 ^ 32) (hz : z < 2 ^ 32) : bits .xor .u32 (a : Int) (z : Int) = ((a ^^^ z : Nat) : Int) := by
  have e1 : (BitVec.ofInt 32 (a : Int)).toNat = a := by rw [BitVec.toNat_ofInt]; omega
  have e2 : (BitVec.ofInt 32 (z : Int)).toNat = z := by rw [BitVec.toNat_ofInt]; omega
  have key : (BitVec.ofInt 32 (a : Int) ^^^ BitVec.ofInt 32 (z : Int)).toNat = a ^^^ z := by rw [BitVec.toNat_xor, e1, e2]
  show IntKind.u32.wrap ((BitVec.ofInt 32 (a : Int) ^^^ BitVec.ofInt 32 (z : Int)).toNat : Nat) = _
  rw [key]
  exact u32_small _ (Nat.xor_lt_two_pow ha hz)
theorem u32_and1 (a : Nat) (ha : a < 2 ^ 32) : bits .and .u32 (a : Int) 1 = ((a % 2 : Nat) : Int) := by
  have e1 : (BitVec.ofInt 32 (a : Int)).toNat = a := by rw [BitVec.toNat_ofInt]; omega
  have e2 : (BitVec.ofInt 32 1).toNat = 2 ^ 1 - 1 := by decide
  have key : (BitVec.ofInt 32 (a : Int) &&& BitVec.ofInt 32 1).toNat = a % 2 := by rw [BitVec.toNat_and, e1, e2, Nat.and_two_pow_sub_one_eq_mod]
  show IntKind.u32.wrap ((BitVec.ofInt 32 (a : Int) &&& BitVec.ofInt 32 1).toNat : Nat) = _
  rw [key]
  exact u32_small _ (by omega)

theorem all_xor (X : Nat) (h : X < 2 ^ 32) : 4294967295 ^^^ X = 4294967295 - X := by
  have h1 : (BitVec.allOnes 32 ^^^ BitVec.ofNat 32 X).toNat = 4294967295 ^^^ X := by
    rw [BitVec.toNat_xor, BitVec.toNat_allOnes, BitVec.toNat_ofNat, Nat.mod_eq_of_lt h]
  have h2 : (BitVec.allOnes 32 ^^^ BitVec.ofNat 32 X) = ~~~(BitVec.ofNat 32 X) := by
    rw [BitVec.xor_comm, BitVec.xor_allOnes]
  rw [h2, BitVec.toNat_not, BitVec.toNat_ofNat, Nat.mod_eq_of_lt h] at h1
  omega

set_option maxHeartbeats 2000000 in
set_option maxRecDepth 100000 in
theorem num_crc (s : ByteArray) (g c : Nat) (w : World) (hc : w.cell? ⟨g, 0, none⟩ = some (.string s)) (hs : s.size ≤ 1000000) :
    Calls Tryz.prog 133 #[.slice (some ⟨g, 0, none⟩) 1 c] w fun e w' => e = .returned (.int .i64 (crcS s : Nat)) ∧ w' = w := by
  go_enter Tryz.func133, Tryz.ntmps133
  go_wp2
  go_loop [3, 10] (fun xv jv => (jv = .int .i64 0 ∧ xv = .int .u32 4294967295) ∨ (jv = .int .i64 1 ∧ xv = .int .u32 (crcN s s.size : Nat))) (fun _ jv => 1 - (intOf jv).toNat)
  case atStart => exact .inl ⟨rfl, rfl⟩
  case round =>
    rcases hrel with ⟨rfl, rfl⟩ | ⟨rfl, rfl⟩
    · go_wp2
      go_loop [3, 16] (fun xv iv => ∃ i : Nat, i ≤ s.size ∧ iv = .int .i64 i ∧ xv = .int .u32 (crcN s i : Nat)) (fun _ iv => s.size - (intOf iv).toNat)
      case atStart => exact ⟨0, by omega, rfl, rfl⟩
      case round =>
        obtain ⟨i, hi, rfl, rfl⟩ := hrel
        by_cases hlt : i < s.size
        · have hbg := byteAt_get s i hlt
          have hbl := byteAt_lt s i
          have hcl := crcN_lt s i
          have hx := u32_xor (crcN s i) (byteAt s i) hcl (by omega)
          have hxl : crcN s i ^^^ byteAt s i < 2 ^ 32 := Nat.xor_lt_two_pow hcl (by omega)
          have HN : Hid (crcN s (i + 1) = crcBits (crcN s i ^^^ byteAt s i) 8) := Lib.hid rfl
          have HXL := Lib.hid hxl
          clear hxl
          generalize hX : crcN s i ^^^ byteAt s i = X at *
          clear hX
          go_wp2
          go_loop [3, 25] (fun xv kv => ∃ k : Nat, k ≤ 8 ∧ kv = .int .i64 k ∧ xv = .int .u32 (crcBits X k : Nat)) (fun _ kv => 8 - (intOf kv).toNat)
          case atStart => exact ⟨0, by omega, rfl, rfl⟩
          case round =>
            obtain ⟨k, hk, rfl, rfl⟩ := hrel
            by_cases hk8 : k < 8
            · have hbt := crcBits_lt X k HXL.out
              have HNX : Hid (crcBits X (k + 1) = crcBit (crcBits X k)) := Lib.hid rfl
              have ha := u32_and1 _ hbt
              generalize crcBits X k = Y at *
              by_cases ho : Y % 2 = 1
              · have hx2 : bits BinOp.xor IntKind.u32 ((Y : Int) / 2) 3988292384 = ((Y / 2 ^^^ 3988292384 : Nat) : Int) := by
                  have e := u32_xor (Y / 2) 3988292384 (by omega) (by omega)
                  simpa using e
                have ha1 : bits BinOp.and IntKind.u32 (Y : Int) 1 = 1 := by rw [ha, ho]; rfl
                have HB : Hid (crcBit Y = Y / 2 ^^^ 3988292384) := Lib.hid (by unfold crcBit; rw [if_pos ho])
                clear ha ho
                generalize Y / 2 ^^^ 3988292384 = Z at *
                clear hbt hcl hx hbg hbl
                go_wp2
                go_round
                case rel => exact ⟨k + 1, by omega, by go_num, by rw [HNX.out, HB.out]⟩
                case measure => simp [intOf]; omega
              · have ha1 : bits BinOp.and IntKind.u32 (Y : Int) 1 = 0 := by rw [ha]; omega
                have HB : Hid (crcBit Y = Y / 2) := Lib.hid (by unfold crcBit; rw [if_neg ho])
                clear ha ho hbt hcl hx hbg hbl
                go_wp2
                go_round
                case rel => exact ⟨k + 1, by omega, by go_num, by rw [HNX.out, HB.out]; simp⟩
                case measure => simp [intOf]; omega
            · obtain rfl : k = 8 := by omega
              rw [← HN.out]
              go_wp2
              go_round
              case rel => exact ⟨i + 1, by omega, by go_num, rfl⟩
              case measure => simp [intOf]; omega
        · obtain rfl : i = s.size := by omega
          go_wp2
          go_round
          case rel => exact .inr ⟨by go_num, rfl⟩
          case measure => simp [intOf]
    · have hcl := crcN_lt s s.size
      have HF : Hid (crcS s = 4294967295 - crcN s s.size) := Lib.hid rfl
      generalize crcN s s.size = X at *
      have hmx : bits BinOp.xor IntKind.u32 IntKind.u32.max (X : Int) = ((4294967295 - X : Nat) : Int) := by
        have e := u32_xor 4294967295 X (by omega) hcl
        rw [all_xor X hcl] at e
        exact e
      have hkn : ¬ IntKind.u32.signed = true := by decide
      have hw : wrap64 ((4294967295 - X : Nat) : Int) = ((4294967295 - X : Nat) : Int) := by unfold wrap64; omega
      clear hcl
      generalize 4294967295 - X = Z at *
      go_wp2
      go_ret
      exact ⟨by rw [HF.out]; rfl, rfl⟩
end Go.Proofs.YtlocadmiomglaaaGreatDoor

/- strings.Builder: WriteString, WriteByte, String, Len, of a builder in a block of the call's own. -/
namespace Go.Proofs.YtlocadmiomglaaaGreatDoor
open Go.RowKit

def renB : Go.Shelf.Ren := { Tryz.lays105_ren with f := fun n => if n = 167 then 131 else Tryz.lays105_ren.f n }
set_option maxRecDepth 100000 in
theorem lay_ws : Lays.n166 Tryz.prog Tryz.lays105_ren := { Tryz.lays105 with }
set_option maxRecDepth 100000 in
theorem lay_wb : Lays.n167 Tryz.prog renB := { Tryz.lays105 with f167 := by kernel_rfl, f240 := by kernel_rfl, f276 := by kernel_rfl }
set_option maxRecDepth 100000 in
theorem extraB : Builder.Extra Tryz.prog renB := { Tryz.Builder_Extra_105 with }

/-- A builder in block b, a new one from B on, that holds the bytes l. -/
def Bd (B b : Nat) (l : List UInt8) (w : World) : Prop := Lib.IsBuilderF 155 5 B b (Lib.byteCells l) w

theorem bd_string (B b : Nat) (l : List UInt8) (s : ByteArray) (w : World) (h : Bd B b l w) (hlen : l.length + s.size ≤ 100000) (hBw : B ≤ w.heap.size) :
    Calls Tryz.prog 115 #[.pointer (some ⟨b, 0, none⟩), .string s] w fun e w' => e = .returned (.tuple #[.int .i64 s.size, .nilIface]) ∧ Bd B b (l ++ s.data.toList) w' ∧ Below B w w' := by
  refine (Any.Builder_WriteString_k lay_ws Tryz.Builder_Extra_105 B b (Lib.byteCells l) s w h (by simp [Lib.byteCells]; omega) hBw).mono ?_
  rintro e w' ⟨he, h1, h2, _⟩
  refine ⟨he, .inr ?_, h2⟩
  have e1 : Lib.byteCells (l ++ s.data.toList) = Lib.byteCells l ++ Lib.strCells s := by simp [Lib.byteCells, Lib.strCells]
  rw [e1]
  exact h1

theorem bd_byte (B b : Nat) (l : List UInt8) (c : UInt8) (w : World) (h : Bd B b l w) (hlen : l.length ≤ 100000) (hBw : B ≤ w.heap.size) :
    Calls Tryz.prog 131 #[.pointer (some ⟨b, 0, none⟩), .int .u8 c.toNat] w fun e w' => e = .returned .nilIface ∧ Bd B b (l ++ [c]) w' ∧ Below B w w' := by
  refine (Any.Builder_WriteByte_k lay_wb extraB B b (Lib.byteCells l) c.toNat w h (by simp [Lib.byteCells]; omega) hBw).mono ?_
  rintro e w' ⟨he, h1, h2, _⟩
  refine ⟨he, .inr ?_, h2⟩
  have e1 : Lib.byteCells (l ++ [c]) = Lib.byteCells l ++ [.int .u8 c.toNat] := by simp [Lib.byteCells]
  rw [e1]
  exact h1

theorem bd_all (B b : Nat) (l : List UInt8) (w : World) (h : Bd B b l w) (hBw : B ≤ w.heap.size) :
    Calls Tryz.prog 116 #[.pointer (some ⟨b, 0, none⟩)] w fun e w' => e = .returned (.string ⟨l.toArray⟩) ∧ Bd B b l w' ∧ Below B w w' :=
  Tryz.Builder_String_any_f B b l w h hBw

theorem bd_len (B b : Nat) (l : List UInt8) (w : World) (h : Bd B b l w) :
    Calls Tryz.prog 114 #[.pointer (some ⟨b, 0, none⟩)] w fun e w' => e = .returned (.int .i64 l.length) ∧ w' = w := by
  refine (Tryz.Builder_Len_f B b (Lib.byteCells l) w h).mono ?_
  rintro e w' ⟨he, hw⟩
  refine ⟨?_, hw⟩
  rw [he]
  simp [Lib.byteCells]

theorem bd_new (w : World) : Bd w.heap.size w.heap.size [] (w.alloc (.cells #[.pointer none, .slice none 0 0] 155)) :=
  .inl ⟨Nat.le_refl _, .slice none 0 0, heap_alloc_new w _, World.ownsRowF_nil _ _ _ _, by intro e; cases e⟩
end Go.Proofs.YtlocadmiomglaaaGreatDoor

/- page.Seal. -/
namespace Go.Proofs.YtlocadmiomglaaaGreatDoor
open Go.RowKit

theorem Bd.keep {B b : Nat} {l : List UInt8} {w w' : World} (h : Bd B b l w) (hb : Below w.heap.size w w') : Bd B b l w' := by
  have key : ∀ p, Lib.BuilderAtF 155 5 B b p (Lib.byteCells l) w → Lib.BuilderAtF 155 5 B b p (Lib.byteCells l) w' := by
    rintro p ⟨hB, v, hbk, hown, hne⟩
    have hlt : b < w.heap.size := (Array.getElem?_eq_some_iff.1 hbk).1
    refine ⟨hB, v, (hb.block b hlt).trans hbk, ?_, hne⟩
    refine ⟨hown.1, ?_⟩
    rcases hown.2 with h | ⟨g, cap, cur, fz, hv, hg, hgg, rest⟩
    · exact .inl h
    · exact .inr ⟨g, cap, cur, fz, hv, hg, (hb.block g (Array.getElem?_eq_some_iff.1 hgg).1).trans hgg, rest⟩
  exact h.elim (fun h => .inl (key _ h)) (fun h => .inr (key _ h))
theorem Bd.lt {B b : Nat} {l : List UInt8} {w : World} (h : Bd B b l w) : b < w.heap.size := by
  rcases h with h | h
  · exact h.lt
  · exact h.lt

set_option maxRecDepth 100000 in
theorem in_yes (n a z : Int) (w : World) (h1 : a ≤ n) (h2 : n ≤ z) : Calls Tryz.prog 130 #[.int .i64 n, .int .i64 a, .int .i64 z] w fun e w' => e = .returned (.bool true) ∧ w' = w := by
  go_enter Tryz.func130, Tryz.ntmps130
  go_wp2
  go_ret
  exact ⟨rfl, rfl⟩

set_option maxRecDepth 100000 in
theorem in_no (n a z : Int) (w : World) (h : n < a ∨ z < n) : Calls Tryz.prog 130 #[.int .i64 n, .int .i64 a, .int .i64 z] w fun e w' => e = .returned (.bool false) ∧ w' = w := by
  by_cases h1 : n < a
  · clear h
    go_enter Tryz.func130, Tryz.ntmps130
    go_wp2
    go_ret
    exact ⟨rfl, rfl⟩
  · have h2 : decide (n ≤ z) = false := by have := h.resolve_left h1; simp; omega
    clear h
    go_enter Tryz.func130, Tryz.ntmps130
    go_wp2
    go_ret
    exact ⟨rfl, rfl⟩

set_option maxHeartbeats 1000000 in
set_option maxRecDepth 100000 in
theorem page_put (B b v n : Nat) (l : List UInt8) (w : World) (h : Bd B b l w) (hlen : l.length ≤ 10000) (hBw : B ≤ w.heap.size) (hv : v < 2 ^ (8 * n)) (h1 : 1 ≤ n) (h2 : n ≤ 7) (hm : (v : Int) ≤ 9223372036854775807) :
    Calls Tryz.prog 132 #[.pointer (some ⟨b, 0, none⟩), .int .i64 v, .int .i64 n] w fun e w' => e = .returned (.tuple #[]) ∧ Bd B b (l ++ fixL v n) w' ∧ Below B w w' := by
  have HF := Lib.hid (num_fix v n w hv h1 h2 hm)
  have HB := Lib.hid h
  clear h hv
  go_enter Tryz.func132, Tryz.ntmps132
  go_wp2_with fail
  refine HF.out.mono ?_
  rintro e w1 ⟨rfl, hb1⟩
  have HW := Lib.hid (bd_string B b l (fixS v n) w1 (HB.out.keep hb1) (by rw [fixS_size]; omega) (Nat.le_trans hBw hb1.size))
  have HB1 := Lib.hid (hb1.mono hBw)
  clear hb1 HF
  go_wp2_with fail
  refine HW.out.mono ?_
  rintro e w2 ⟨rfl, hbd, hb2⟩
  have HBE := Lib.hid (HB1.out.trans hb2)
  have HBD := Lib.hid hbd
  clear hb2 hbd HW
  go_wp2
  go_end0
  exact ⟨rfl, HBD.out, HBE.out⟩

set_option maxRecDepth 100000 in
theorem page_get (b : ByteArray) (at' n : Nat) (w : World) (h : at' + n ≤ b.size) (h1 : 1 ≤ n) (h2 : n ≤ 7) (hb : b.size ≤ 1000000) :
    Calls Tryz.prog 184 #[.string b, .int .i64 at', .int .i64 n] w fun e w' => e = .returned (.int .i64 (unfixN b at' n : Nat)) ∧ w' = w := by
  have HU := Lib.hid (num_unfix b at' n w h h1 h2 hb)
  clear h
  go_enter Tryz.func184, Tryz.ntmps184
  go_wp2_with fail
  refine HU.out.mono ?_
  rintro e w1 ⟨rfl, rfl⟩
  go_wp2
  go_ret
  exact ⟨rfl, rfl⟩

def headL (id next kind : Nat) (body : List UInt8) : List UInt8 := [UInt8.ofNat kind] ++ fixL id 4 ++ fixL next 4 ++ fixL body.length 2 ++ body
theorem headL_length (id next kind : Nat) (body : List UInt8) : (headL id next kind body).length = 11 + body.length := by
  unfold headL
  simp only [List.length_append, fixL_length, List.length_cons, List.length_nil]
def coreL (id next kind : Nat) (body : List UInt8) : List UInt8 := headL id next kind body ++ List.replicate (241 - body.length) 0
theorem coreL_length (id next kind : Nat) (body : List UInt8) (h : body.length ≤ 240) : (coreL id next kind body).length = 252 := by
  unfold coreL
  rw [List.length_append, headL_length, List.length_replicate]
  omega
def sealL (id next kind : Nat) (body : List UInt8) : List UInt8 := coreL id next kind body ++ fixL (crcS ⟨(coreL id next kind body).toArray⟩) 4
def sealS (id next kind : Nat) (body : ByteArray) : ByteArray := ⟨(sealL id next kind body.data.toList).toArray⟩
theorem sealS_size (id next kind : Nat) (body : ByteArray) (h : body.size ≤ 240) : (sealS id next kind body).size = 256 := by
  show (sealL id next kind body.data.toList).toArray.size = 256
  rw [List.size_toArray, sealL, List.length_append, coreL_length _ _ _ _ (by simpa using h), fixL_length]
theorem crcS_lt (s : ByteArray) : crcS s < 2 ^ 32 := by unfold crcS; omega
theorem zeros_size (q : Nat) : (⟨(List.replicate q (0 : UInt8)).toArray⟩ : ByteArray).size = q := by
  show (List.replicate q (0 : UInt8)).toArray.size = q
  rw [List.size_toArray, List.length_replicate]
theorem repeat_zero (n : Nat) : Lib.repeatL [0] n = List.replicate n 0 := by
  induction n with
  | zero => rfl
  | succ n ih => rw [List.replicate_succ, ← ih]; rfl

set_option maxHeartbeats 4000000 in
set_option maxRecDepth 100000 in
theorem page_seal (id next kind : Nat) (body : ByteArray) (w : World) (h1 : id < 2 ^ 32) (h2 : next < 2 ^ 32) (h3 : 1 ≤ kind) (h4 : kind ≤ 255) (h5 : body.size ≤ 240) :
    Calls Tryz.prog 55 #[.int .i64 id, .agg #[.int .i64 kind, .int .i64 next, .string body]] w fun e w' => e = .returned (.tuple #[.string (sealS id next kind body), .int .i64 0]) ∧ Below w.heap.size w w' := by
  have HI1 := Lib.hid (fun w => in_yes id 0 4294967295 w (by omega) (by omega))
  have HI2 := Lib.hid (fun w => in_yes next 0 4294967295 w (by omega) (by omega))
  have HI3 := Lib.hid (fun w => in_yes kind 1 255 w (by omega) (by omega))
  have HL1 := Lib.hid h1
  have HL2 := Lib.hid h2
  clear h1 h2
  go_enter Tryz.func55, Tryz.ntmps55
  go_wp2_with fail
  refine (HI1.out _).mono ?_
  rintro e w1 ⟨rfl, rfl⟩
  go_wp2_with fail
  refine (HI2.out _).mono ?_
  rintro e w1 ⟨rfl, rfl⟩
  go_wp2_with fail
  refine (HI3.out _).mono ?_
  rintro e w1 ⟨rfl, rfl⟩
  have c0 : ((w.alloc (.cells #[.int .i64 kind, .int .i64 next, .string body] 67)).alloc (.cells #[.pointer none, .slice none 0 0] 155)).cell? ⟨w.heap.size, 0, none⟩ = some (.int .i64 kind) := by go_simp
  have c1 : ((w.alloc (.cells #[.int .i64 kind, .int .i64 next, .string body] 67)).alloc (.cells #[.pointer none, .slice none 0 0] 155)).cell? ⟨w.heap.size, 1, none⟩ = some (.int .i64 next) := by clear c0; go_simp
  have c2 : ((w.alloc (.cells #[.int .i64 kind, .int .i64 next, .string body] 67)).alloc (.cells #[.pointer none, .slice none 0 0] 155)).cell? ⟨w.heap.size, 2, none⟩ = some (.string body) := by clear c0 c1; go_simp
  have hbn : Bd (w.heap.size + 1) (w.heap.size + 1) [] ((w.alloc (.cells #[.int .i64 kind, .int .i64 next, .string body] 67)).alloc (.cells #[.pointer none, .slice none 0 0] 155)) := by
    have e := bd_new (w.alloc (.cells #[.int .i64 kind, .int .i64 next, .string body] 67))
    rw [World.size_alloc] at e
    exact e
  have hbw : Below w.heap.size w ((w.alloc (.cells #[.int .i64 kind, .int .i64 next, .string body] 67)).alloc (.cells #[.pointer none, .slice none 0 0] 155)) := ((Below.refl _ w).alloc (Nat.le_refl _) _).alloc (by simp) _
  have hsz : w.heap.size + 1 ≤ ((w.alloc (.cells #[.int .i64 kind, .int .i64 next, .string body] 67)).alloc (.cells #[.pointer none, .slice none 0 0] 155)).heap.size := by simp
  obtain ⟨W, hW⟩ : ∃ W, (w.alloc (.cells #[.int .i64 kind, .int .i64 next, .string body] 67)).alloc (.cells #[.pointer none, .slice none 0 0] 155) = W := ⟨_, rfl⟩
  rw [hW] at c0 c1 c2 hbn hbw hsz
  have HW := Lib.hid hW
  have HBW := Lib.hid hbw
  have HBN := Lib.hid hbn
  clear hW hbn hbw
  have hk8 : ((UInt8.ofNat kind).toNat : Int) = (kind : Int) := by simp; omega
  have HY1 : Hid (Calls Tryz.prog 131 #[.pointer (some ⟨w.heap.size + 1, 0, none⟩), .int .u8 kind] W fun e w' => e = .returned (.nilIface) ∧ Bd (w.heap.size + 1) (w.heap.size + 1) ([] ++ [UInt8.ofNat kind]) w' ∧ Below (w.heap.size + 1) W w') := Lib.hid (by have e := bd_byte (w.heap.size + 1) (w.heap.size + 1) [] (UInt8.ofNat kind) W HBN.out (by simp) hsz; rw [hk8] at e; exact e)
  go_wp2_with fail
  rw [HW.out]
  refine HY1.out.mono ?_
  rintro e v1 ⟨rfl, hbd, hb⟩
  have HD1 := Lib.hid hbd
  have HBW := Lib.hid (HBW.out.trans (hb.mono (by omega)))
  have hsz_1 := Nat.le_trans hsz hb.size
  have c0_1 := (hb.cell (p := ⟨w.heap.size, 0, none⟩) (by show w.heap.size < _; omega)).trans c0
  have c1_1 := (hb.cell (p := ⟨w.heap.size, 1, none⟩) (by show w.heap.size < _; omega)).trans c1
  have c2_1 := (hb.cell (p := ⟨w.heap.size, 2, none⟩) (by show w.heap.size < _; omega)).trans c2
  clear c0 c1 c2 hsz hbd hb HY1
  clear hk8
  have HY2 : Hid (Calls Tryz.prog 132 #[.pointer (some ⟨w.heap.size + 1, 0, none⟩), .int .i64 id, .int .i64 4] v1 fun e w' => e = .returned (.tuple #[]) ∧ Bd (w.heap.size + 1) (w.heap.size + 1) ([] ++ [UInt8.ofNat kind] ++ fixL id 4) w' ∧ Below (w.heap.size + 1) v1 w') := Lib.hid (page_put (w.heap.size + 1) (w.heap.size + 1) id 4 _ _ HD1.out (by simp) hsz_1 HL1.out (by omega) (by omega) (by have := HL1.out; omega))
  go_wp2_with fail
  refine HY2.out.mono ?_
  rintro e v2 ⟨rfl, hbd, hb⟩
  have HD2 := Lib.hid hbd
  have HBW := Lib.hid (HBW.out.trans (hb.mono (by omega)))
  have hsz_2 := Nat.le_trans hsz_1 hb.size
  have c0_2 := (hb.cell (p := ⟨w.heap.size, 0, none⟩) (by show w.heap.size < _; omega)).trans c0_1
  have c1_2 := (hb.cell (p := ⟨w.heap.size, 1, none⟩) (by show w.heap.size < _; omega)).trans c1_1
  have c2_2 := (hb.cell (p := ⟨w.heap.size, 2, none⟩) (by show w.heap.size < _; omega)).trans c2_1
  clear c0_1 c1_1 c2_1 hsz_1 hbd hb HY2
  have HY3 : Hid (Calls Tryz.prog 132 #[.pointer (some ⟨w.heap.size + 1, 0, none⟩), .int .i64 next, .int .i64 4] v2 fun e w' => e = .returned (.tuple #[]) ∧ Bd (w.heap.size + 1) (w.heap.size + 1) ([] ++ [UInt8.ofNat kind] ++ fixL id 4 ++ fixL next 4) w' ∧ Below (w.heap.size + 1) v2 w') := Lib.hid (page_put (w.heap.size + 1) (w.heap.size + 1) next 4 _ _ HD2.out (by simp [fixL_length]) hsz_2 HL2.out (by omega) (by omega) (by have := HL2.out; omega))
  go_wp2_with fail
  refine HY3.out.mono ?_
  rintro e v3 ⟨rfl, hbd, hb⟩
  have HD3 := Lib.hid hbd
  have HBW := Lib.hid (HBW.out.trans (hb.mono (by omega)))
  have hsz_3 := Nat.le_trans hsz_2 hb.size
  have c0_3 := (hb.cell (p := ⟨w.heap.size, 0, none⟩) (by show w.heap.size < _; omega)).trans c0_2
  have c1_3 := (hb.cell (p := ⟨w.heap.size, 1, none⟩) (by show w.heap.size < _; omega)).trans c1_2
  have c2_3 := (hb.cell (p := ⟨w.heap.size, 2, none⟩) (by show w.heap.size < _; omega)).trans c2_2
  clear c0_2 c1_2 c2_2 hsz_2 hbd hb HY3
  have HY4 : Hid (Calls Tryz.prog 132 #[.pointer (some ⟨w.heap.size + 1, 0, none⟩), .int .i64 body.size, .int .i64 2] v3 fun e w' => e = .returned (.tuple #[]) ∧ Bd (w.heap.size + 1) (w.heap.size + 1) ([] ++ [UInt8.ofNat kind] ++ fixL id 4 ++ fixL next 4 ++ fixL body.size 2) w' ∧ Below (w.heap.size + 1) v3 w') := Lib.hid (page_put (w.heap.size + 1) (w.heap.size + 1) body.size 2 _ _ HD3.out (by simp [fixL_length]) hsz_3 (by omega) (by omega) (by omega) (by omega))
  go_wp2_with fail
  refine HY4.out.mono ?_
  rintro e v4 ⟨rfl, hbd, hb⟩
  have HD4 := Lib.hid hbd
  have HBW := Lib.hid (HBW.out.trans (hb.mono (by omega)))
  have hsz_4 := Nat.le_trans hsz_3 hb.size
  have c0_4 := (hb.cell (p := ⟨w.heap.size, 0, none⟩) (by show w.heap.size < _; omega)).trans c0_3
  have c1_4 := (hb.cell (p := ⟨w.heap.size, 1, none⟩) (by show w.heap.size < _; omega)).trans c1_3
  have c2_4 := (hb.cell (p := ⟨w.heap.size, 2, none⟩) (by show w.heap.size < _; omega)).trans c2_3
  clear c0_3 c1_3 c2_3 hsz_3 hbd hb HY4
  have HY5 : Hid (Calls Tryz.prog 115 #[.pointer (some ⟨w.heap.size + 1, 0, none⟩), .string body] v4 fun e w' => e = .returned (.tuple #[.int .i64 body.size, .nilIface]) ∧ Bd (w.heap.size + 1) (w.heap.size + 1) ([] ++ [UInt8.ofNat kind] ++ fixL id 4 ++ fixL next 4 ++ fixL body.size 2 ++ body.data.toList) w' ∧ Below (w.heap.size + 1) v4 w') := Lib.hid (bd_string (w.heap.size + 1) (w.heap.size + 1) _ body _ HD4.out (by simp [fixL_length]; omega) hsz_4)
  go_wp2_with fail
  refine HY5.out.mono ?_
  rintro e v5 ⟨rfl, hbd, hb⟩
  have HD5 := Lib.hid hbd
  have HBW := Lib.hid (HBW.out.trans (hb.mono (by omega)))
  have hsz_5 := Nat.le_trans hsz_4 hb.size
  have c0_5 := (hb.cell (p := ⟨w.heap.size, 0, none⟩) (by show w.heap.size < _; omega)).trans c0_4
  have c1_5 := (hb.cell (p := ⟨w.heap.size, 1, none⟩) (by show w.heap.size < _; omega)).trans c1_4
  have c2_5 := (hb.cell (p := ⟨w.heap.size, 2, none⟩) (by show w.heap.size < _; omega)).trans c2_4
  clear c0_4 c1_4 c2_4 hsz_4 hbd hb HY5
  have HLL : Hid (([] ++ [UInt8.ofNat kind] ++ fixL id 4 ++ fixL next 4 ++ fixL body.size 2 ++ body.data.toList) = headL id next kind body.data.toList) := Lib.hid (by simp [headL])
  rw [HLL.out] at HD5
  have HLN := Lib.hid (bd_len (w.heap.size + 1) (w.heap.size + 1) _ _ HD5.out)
  rw [headL_length] at HLN
  obtain ⟨q, hq⟩ : ∃ q : Nat, 241 - body.size = q := ⟨_, rfl⟩
  have hql : 1 ≤ q ∧ q ≤ 241 := by omega
  have hqi : (252 : Int) - (11 + (body.size : Int)) = (q : Int) := by omega
  have HQ : Hid (body.data.toList.length = body.size ∧ 241 - body.size = q) := Lib.hid ⟨by simp, hq⟩
  clear hq
  have HRP : Hid (∀ w, Calls Tryz.prog 119 #[.string ⟨#[0]⟩, .int .i64 (252 - (11 + (body.size : Int)))] w fun e w' => e = .returned (.string ⟨(List.replicate q 0).toArray⟩) ∧ Below w.heap.size w w') := Lib.hid (fun w => by
    have e := Tryz.strings_Repeat ⟨#[0]⟩ q w (by omega) (by simp [ByteArray.size]; omega)
    rw [hqi]
    have e2 : (⟨#[0]⟩ : ByteArray).data.toList = [0] := rfl
    rw [e2, repeat_zero] at e
    exact e)
  clear hqi
  go_wp2_with fail
  refine HLN.out.mono ?_
  rintro e v9 ⟨rfl, rfl⟩
  go_wp2_with fail
  refine (HRP.out _).mono ?_
  rintro e v10 ⟨rfl, hb⟩
  have HD6 := Lib.hid (HD5.out.keep hb)
  have HBW6 := Lib.hid (HBW.out.trans (hb.mono (by omega)))
  have hsz_6 := Nat.le_trans hsz_5 hb.size
  clear hb c0_5 c1_5 c2_5 hsz_5 HRP HLN
  have HY7 := Lib.hid (bd_string (w.heap.size + 1) (w.heap.size + 1) _ ⟨(List.replicate q 0).toArray⟩ _ HD6.out (by rw [headL_length, HQ.out.1, zeros_size]; omega) hsz_6)
  go_wp2_with fail
  refine HY7.out.mono ?_
  rintro e v11 ⟨rfl, hbd, hb⟩
  have HCO : Hid (headL id next kind body.data.toList ++ (⟨(List.replicate q 0).toArray⟩ : ByteArray).data.toList = coreL id next kind body.data.toList) := Lib.hid (by
    unfold coreL
    rw [HQ.out.1, HQ.out.2])
  rw [HCO.out] at hbd
  have HD7 := Lib.hid hbd
  have HBW7 := Lib.hid (HBW6.out.trans (hb.mono (by omega)))
  have hsz_7 := Nat.le_trans hsz_6 hb.size
  clear hbd hb HY7 HD6 HBW6
  have HCL : Hid ((coreL id next kind body.data.toList).length = 252) := Lib.hid (coreL_length _ _ _ _ (by rw [HQ.out.1]; exact h5))
  have HSE : Hid (sealS id next kind body = ⟨(coreL id next kind body.data.toList ++ fixL (crcS ⟨(coreL id next kind body.data.toList).toArray⟩) 4).toArray⟩) := Lib.hid rfl
  generalize coreL id next kind body.data.toList = core at *
  have HY8 := Lib.hid (bd_all (w.heap.size + 1) (w.heap.size + 1) _ _ HD7.out hsz_7)
  go_wp2_with fail
  refine HY8.out.mono ?_
  rintro e v12 ⟨rfl, hbd, hb⟩
  have HD8 := Lib.hid hbd
  have HBW8 := Lib.hid (HBW7.out.trans (hb.mono (by omega)))
  have hsz_8 := Nat.le_trans hsz_7 hb.size
  clear hbd hb HY8 HD7 HBW7
  have hsc : (⟨core.toArray⟩ : ByteArray).size = 252 := by
    show core.toArray.size = 252
    rw [List.size_toArray, HCL.out]
  have HCR := Lib.hid (num_crc ⟨core.toArray⟩ v12.heap.size 1 (v12.alloc (.cells #[.string ⟨core.toArray⟩] 9)) (by have e := new_cells v12 [.string ⟨core.toArray⟩] 9 0 _ rfl; rw [add_at0] at e; exact e) (by omega))
  have HCT := Lib.hid (crcS_lt ⟨core.toArray⟩)
  have HD9 := Lib.hid (HD8.out.keep ((Below.refl _ v12).alloc (Nat.le_refl _) (.cells #[.string ⟨core.toArray⟩] 9)))
  have HBW9 : Hid (Below w.heap.size w (v12.alloc (.cells #[.string ⟨core.toArray⟩] 9))) := Lib.hid (HBW8.out.alloc (by omega) _)
  clear hsc
  generalize crcS ⟨core.toArray⟩ = cr at *
  have HP9 : Hid (Calls Tryz.prog 132 #[.pointer (some ⟨w.heap.size + 1, 0, none⟩), .int .i64 cr, .int .i64 4] (v12.alloc (.cells #[.string ⟨core.toArray⟩] 9)) fun e w' => e = .returned (.tuple #[]) ∧ Bd (w.heap.size + 1) (w.heap.size + 1) (core ++ fixL cr 4) w' ∧ Below (w.heap.size + 1) (v12.alloc (.cells #[.string ⟨core.toArray⟩] 9)) w') := Lib.hid (page_put (w.heap.size + 1) (w.heap.size + 1) cr 4 _ _ HD9.out (by rw [HCL.out]; omega) (by simp; omega) HCT.out (by omega) (by omega) (by have := HCT.out; omega))
  go_wp2_with fail
  refine HCR.out.mono ?_
  rintro e v13 ⟨rfl, rfl⟩
  go_wp2_with fail
  refine HP9.out.mono ?_
  rintro e v14 ⟨rfl, hbd, hb⟩
  have HY9 := Lib.hid (bd_all (w.heap.size + 1) (w.heap.size + 1) _ _ hbd (Nat.le_trans (by simp; omega) hb.size))
  have HBWA := Lib.hid (HBW9.out.trans (hb.mono (by omega)))
  have hszA : w.heap.size + 1 ≤ v14.heap.size := Nat.le_trans (by simp; omega) hb.size
  clear hbd hb HP9 HBW9 HBW8 HCR
  go_wp2_with fail
  refine HY9.out.mono ?_
  rintro e v15 ⟨rfl, _, hb⟩
  have HBWE := Lib.hid (HBWA.out.trans (hb.mono (by omega)))
  clear hb HY9 HBWA
  go_wp2
  go_ret2
  exact ⟨by rw [HSE.out]; rfl, HBWE.out⟩
end Go.Proofs.YtlocadmiomglaaaGreatDoor

