/- dev: torn, a page of which some sectors were written. -/
import Derived.Test.YtpoiopjggmhnjaaDoorFill
import Derived.Shelf.Strings.BuilderK
namespace Go.Proofs.YtpoiopjggmhnjaaDoor
open Go.RowKit Go.Conc

theorem i64_and1 (n : Int) : bits .and .i64 n 1 = n % 2 := by
  have h1 : (BitVec.ofInt 64 1).toNat = 2 ^ 1 - 1 := by decide
  have key : (BitVec.ofInt 64 n &&& BitVec.ofInt 64 1).toNat = (n % ((2 ^ 64 : Nat) : Int)).toNat % 2 ^ 1 := by
    rw [BitVec.toNat_and, BitVec.toNat_ofInt, h1, Nat.and_two_pow_sub_one_eq_mod]
  show IntKind.i64.wrap ((BitVec.ofInt 64 n &&& BitVec.ofInt 64 1).toNat : Nat) = n % 2
  rw [key, IntKind.wrap_i64]
  omega

def sect (s : List UInt8) (i : Nat) : List UInt8 := (s.drop (32 * i)).take 32
/-- Is the bit set? -/
def bitAt (k i : Nat) : Bool := k / 2 ^ i % 2 == 1
def tornL (o d : List UInt8) (k n : Nat) : List UInt8 := (List.range n).flatMap fun i => sect (if bitAt k i then d else o) i
theorem tornL_succ (o d : List UInt8) (k n : Nat) : tornL o d k (n + 1) = tornL o d k n ++ sect (if bitAt k n then d else o) n := by
  unfold tornL
  rw [List.range_succ, List.flatMap_append]
  simp
theorem sect_length (s : List UInt8) (i : Nat) (h : s.length = 256) (hi : i < 8) : (sect s i).length = 32 := by
  unfold sect
  rw [List.length_take, List.length_drop]
  omega
theorem tornL_length (o d : List UInt8) (k n : Nat) (ho : o.length = 256) (hd : d.length = 256) (hn : n ≤ 8) : (tornL o d k n).length = 32 * n := by
  induction n with
  | zero => rfl
  | succ n ih =>
    rw [tornL_succ, List.length_append, ih (by omega), sect_length _ _ (by split <;> assumption) (by omega)]
    omega
def tornS (o d : ByteArray) (k : Nat) : ByteArray := ⟨(tornL o.data.toList d.data.toList k 8).toArray⟩

theorem sect_extract (s : ByteArray) (i : Nat) (hs : s.size = 256) : Lib.strCells (s.extract (i * 32) ((i + 1) * 32)) = Lib.byteCells (sect s.data.toList i) := by
  have hl : s.data.toList.length = 256 := by simpa using hs
  unfold Lib.strCells Lib.byteCells sect
  congr 1
  rw [ByteArray.data_extract, Array.toList_extract, List.extract_eq_take_drop]
  rw [show (i + 1) * 32 - i * 32 = 32 by omega, Nat.mul_comm]

theorem bit_int (k i : Nat) : bits .and .i64 ((k : Int) / 2 ^ i) 1 = if bitAt k i then 1 else 0 := by
  rw [i64_and1]
  unfold bitAt
  have e : ((k : Int) / 2 ^ i) = ((k / 2 ^ i : Nat) : Int) := by simp
  rw [e]
  generalize k / 2 ^ i = q
  by_cases h : q % 2 = 1
  · simp [h]; omega
  · simp [h]; omega

theorem lay_wstr : Lays.n166 Tryd.prog Tryd.lays105_ren := { Tryd.lays105 with }

theorem sect_next (o d : ByteArray) (k i : Nat) (x : ByteArray) (hx : x.size = 256) (he : (if bitAt k i then d.data.toList else o.data.toList) = x.data.toList) :
    Lib.byteCells (tornL o.data.toList d.data.toList k i ++ (x.extract (i * 32) ((i + 1) * 32)).data.toList) = Lib.byteCells (tornL o.data.toList d.data.toList k (i + 1)) := by
  rw [tornL_succ, he]
  have e := sect_extract x i hx
  unfold Lib.strCells at e
  unfold Lib.byteCells at *
  rw [List.map_append, List.map_append, e]

theorem torn_write (b : Nat) (l : List UInt8) (s : ByteArray) (w : World) (B : Nat) (h : Lib.IsBuilderF 85 5 B b (Lib.byteCells l) w) (hlen : l.length + s.size ≤ 100000) (hBw : B ≤ w.heap.size) :
    Calls Tryd.prog 49 #[.pointer (some ⟨b, 0, none⟩), .string s] w fun e w' => e = .returned (.tuple #[.int .i64 s.size, .nilIface]) ∧ Lib.IsBuilderF 85 5 B b (Lib.byteCells (l ++ s.data.toList)) w' ∧ Below B w w' := by
  refine (Any.Builder_WriteString_k lay_wstr Tryd.Builder_Extra_105 B b (Lib.byteCells l) s w h (by simp [Lib.byteCells]; omega) hBw).mono ?_
  rintro e w' ⟨he, h1, h2, _⟩
  refine ⟨he, .inr ?_, h2⟩
  have e1 : Lib.byteCells (l ++ s.data.toList) = Lib.byteCells l ++ Lib.strCells s := by simp [Lib.byteCells, Lib.strCells]
  rw [e1]
  exact h1

set_option maxHeartbeats 1000000 in
set_option maxRecDepth 100000 in
theorem torn_str (o d : ByteArray) (k : Nat) (ho : o.size = 256) (hd : d.size = 256) (w : World) :
    Calls Tryd.prog 45 #[.string o, .string d, .int .i64 k] w fun e w' => e = .returned (.string (tornS o d k)) ∧ Below w.heap.size w w' := by
  have HO := Lib.hid ho
  have HD := Lib.hid hd
  have hol : o.size ≤ 256 := by omega
  have hdl : d.size ≤ 256 := by omega
  have hog : 256 ≤ o.size := by omega
  have hdg : 256 ≤ d.size := by omega
  clear ho hd
  go_enter Tryd.func45, Tryd.ntmps45
  go_wp2
  go_loopw [10] (fun iv wr => ∃ i : Nat, i ≤ 8 ∧ iv = .int .i64 i ∧ Below w.heap.size w wr ∧ Lib.IsBuilderF 85 5 w.heap.size w.heap.size (Lib.byteCells (tornL o.data.toList d.data.toList k i)) wr) (fun iv _ => 8 - (intOf iv).toNat)
  case atStart =>
    refine ⟨0, by omega, rfl, (Below.refl _ w).alloc (Nat.le_refl _) _, ?_⟩
    exact .inl ⟨Nat.le_refl _, .slice none 0 0, heap_alloc_new w _, World.ownsRowF_nil _ _ _ _, by intro e; cases e⟩
  case round =>
    obtain ⟨i, hi, rfl, hb, hB⟩ := hrel
    have HB := Lib.hid hb
    have HBD := Lib.hid hB
    have hsz := hb.size
    have hbit := bit_int k i
    clear hb hB
    by_cases hlt : i < 8
    · have HL := Lib.hid (tornL_length o.data.toList d.data.toList k i (by simpa using HO.out) (by simpa using HD.out) hi)
      by_cases hbt : bitAt k i = true
      · rw [if_pos hbt] at hbit
        have HBT := Lib.hid hbt
        clear hbt
        go_wp2_with fail
        refine (torn_write w.heap.size _ _ _ w.heap.size HBD.out (by rw [HL.out]; simp [ByteArray.size_extract]; omega) hsz).mono ?_
        rintro e w2 ⟨rfl, h1, h2⟩
        rw [sect_next o d k i d (HD).out (by rw [HBT.out]; rfl)] at h1
        have H1 := Lib.hid h1
        have H2 := Lib.hid h2
        clear h1 h2
        go_wp2
        go_roundw
        case rel => exact ⟨i + 1, by omega, by go_num, HB.out.trans H2.out, H1.out⟩
        case measure => simp [intOf]; omega
      · rw [if_neg hbt] at hbit
        have hbt : bitAt k i = false := by simpa using hbt
        have HBT := Lib.hid hbt
        clear hbt
        go_wp2_with fail
        refine (torn_write w.heap.size _ _ _ w.heap.size HBD.out (by rw [HL.out]; simp [ByteArray.size_extract]; omega) hsz).mono ?_
        rintro e w2 ⟨rfl, h1, h2⟩
        rw [sect_next o d k i o (HO).out (by rw [HBT.out]; rfl)] at h1
        have H1 := Lib.hid h1
        have H2 := Lib.hid h2
        clear h1 h2
        go_wp2
        go_roundw
        case rel => exact ⟨i + 1, by omega, by go_num, HB.out.trans H2.out, H1.out⟩
        case measure => simp [intOf]; omega
    · obtain rfl : i = 8 := by omega
      go_wp2_with fail
      refine (Tryd.Builder_String_any_f w.heap.size w.heap.size _ _ HBD.out hsz).mono ?_
      rintro e w2 ⟨rfl, _, h2⟩
      have HE := Lib.hid (HB.out.trans h2)
      clear h2
      go_wp2
      go_ret
      exact ⟨rfl, HE.out⟩

theorem tornS_size (o d : ByteArray) (k : Nat) (ho : o.size = 256) (hd : d.size = 256) : (tornS o d k).size = 256 := by
  have h := tornL_length o.data.toList d.data.toList k 8 (by simpa using ho) (by simpa using hd) (by omega)
  unfold tornS
  show (tornL o.data.toList d.data.toList k 8).toArray.size = 256
  rw [List.size_toArray, h]
end Go.Proofs.YtpoiopjggmhnjaaDoor
