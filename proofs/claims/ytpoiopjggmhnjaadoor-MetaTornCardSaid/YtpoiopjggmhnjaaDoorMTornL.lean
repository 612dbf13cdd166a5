/- MetaTorn: the plain law: a meta's page of which some sectors were written. -/
import Derived.Test.YtpoiopjggmhnjaaDoorMAlive
namespace Go.Proofs.YtpoiopjggmhnjaaDoor
open Go.RowKit

def z32 : List UInt8 := List.replicate 32 0
theorem sect_zero (i : Nat) (h : i < 8) : sect (List.replicate 256 0) i = z32 := by
  unfold sect z32
  rw [List.drop_replicate, List.take_replicate]
  congr 1
  omega
section
variable {P C : List UInt8}
theorem sect_head (hP : P.length = 32) (R : List UInt8) : sect (P ++ R) 0 = P := by
  unfold sect
  rw [Nat.mul_zero, List.drop_zero, List.take_left' hP]
theorem sect_rest (hP : P.length = 32) (R : List UInt8) (i : Nat) : sect (P ++ R) (i + 1) = sect R i := by
  unfold sect
  rw [show 32 * (i + 1) = P.length + 32 * i by omega, ← List.drop_drop, List.drop_left' rfl]
theorem sect_mid (i : Nat) (h : i < 6) : sect (List.replicate 220 0 ++ C) i = z32 := by
  unfold sect z32
  rw [List.drop_append_of_le_length (by rw [List.length_replicate]; omega), List.drop_replicate, List.take_append_of_le_length (by rw [List.length_replicate]; omega), List.take_replicate]
  congr 1
  omega
theorem sect_end (hC : C.length = 4) : sect (List.replicate 220 0 ++ C) 6 = List.replicate 28 0 ++ C := by
  unfold sect
  rw [List.drop_append_of_le_length (by rw [List.length_replicate]; omega), List.drop_replicate, List.take_of_length_le (by rw [List.length_append, List.length_replicate]; omega)]
/-- Of a page with nought between its first sector and its last four bytes. -/
theorem torn_shape (hP : P.length = 32) (hC : C.length = 4) (k : Nat) :
    tornL (List.replicate 256 0) (P ++ (List.replicate 220 0 ++ C)) k 8 = (if bitAt k 0 then P else z32) ++ (List.replicate 220 0 ++ (if bitAt k 7 then C else List.replicate 4 0)) := by
  have h0 : sect (if bitAt k 0 then P ++ (List.replicate 220 0 ++ C) else List.replicate 256 0) 0 = if bitAt k 0 then P else z32 := by
    split
    · exact sect_head hP _
    · exact sect_zero 0 (by omega)
  have h7 : sect (if bitAt k 7 then P ++ (List.replicate 220 0 ++ C) else List.replicate 256 0) 7 = List.replicate 28 0 ++ (if bitAt k 7 then C else List.replicate 4 0) := by
    split
    · rw [sect_rest hP, sect_end hC]
    · rw [sect_zero 7 (by omega)]; rfl
  have hm : ∀ i, i < 6 → sect (if bitAt k (i + 1) then P ++ (List.replicate 220 0 ++ C) else List.replicate 256 0) (i + 1) = z32 := fun i hi => by
    split
    · rw [sect_rest hP, sect_mid i hi]
    · exact sect_zero _ (by omega)
  rw [tornL_succ, tornL_succ, tornL_succ, tornL_succ, tornL_succ, tornL_succ, tornL_succ, tornL_succ, h0, h7, hm 0 (by omega), hm 1 (by omega), hm 2 (by omega), hm 3 (by omega), hm 4 (by omega), hm 5 (by omega)]
  have e : List.replicate 220 (0 : UInt8) = z32 ++ (z32 ++ (z32 ++ (z32 ++ (z32 ++ (z32 ++ List.replicate 28 0))))) := by kernel_rfl
  rw [e]
  simp only [tornL, List.range_zero, List.flatMap_nil, List.nil_append, List.append_assoc]
end

/-- The first sector of a meta's page. -/
def metaH (m : Mt) : List UInt8 := [1] ++ fixL (m.txn % 2) 4 ++ fixL 0 4 ++ fixL 24 2 ++ fixL m.txn 6 ++ fixL m.root 6 ++ fixL m.free 6 ++ fixL m.pages 3
theorem metaH_length (m : Mt) : (metaH m).length = 32 := by
  unfold metaH
  simp only [List.length_append, fixL_length]
  rfl
theorem fix_small (v : Nat) (h : v < 2 ^ 24) : fixL v 6 = fixL v 3 ++ List.replicate 3 0 := by
  have e3 : v / 2 ^ 24 = 0 := by omega
  have e4 : v / 2 ^ 32 = 0 := by omega
  have e5 : v / 2 ^ 40 = 0 := by omega
  simp [fixL, List.range_succ, e3, e4, e5]
theorem meta_core (m : Mt) (h : m.pages < 2 ^ 24) : coreL (m.txn % 2) 0 1 (metaS m.l).data.toList = metaH m ++ List.replicate 220 0 := by
  have e : (metaS m.l).data.toList = fixL m.txn 6 ++ (fixL m.root 6 ++ (fixL m.free 6 ++ fixL m.pages 6)) := by
    show (metaL m.l).toArray.toList = _
    rw [List.toList_toArray]
    simp [metaL, Mt.l]
  have hl : (metaS m.l).data.toList.length = 24 := by rw [e]; simp [fixL_length]
  unfold coreL headL metaH
  rw [hl, e, fix_small m.pages h]
  have e2 : List.replicate 220 (0 : UInt8) = List.replicate 3 0 ++ List.replicate 217 0 := by kernel_rfl
  rw [e2]
  simp only [List.append_assoc]
  rfl
def metaX (m : Mt) : Nat := crcS ⟨(metaH m ++ List.replicate 220 0).toArray⟩
theorem meta_list (m : Mt) (h : m.pages < 2 ^ 24) : (metaP m).data.toList = metaH m ++ (List.replicate 220 0 ++ fixL (metaX m) 4) := by
  show (sealL _ _ _ _).toArray.toList = _
  rw [List.toList_toArray, sealL, meta_core m h, List.append_assoc]
  rfl
theorem page0_list : page0.data.toList = List.replicate 256 0 := by kernel_rfl
theorem torn_meta (m : Mt) (h : m.pages < 2 ^ 24) (k : Nat) : (tornS page0 (metaP m) k).data.toList = (if bitAt k 0 then metaH m else z32) ++ (List.replicate 220 0 ++ (if bitAt k 7 then fixL (metaX m) 4 else List.replicate 4 0)) := by
  show (tornL _ _ k 8).toArray.toList = _
  rw [List.toList_toArray, page0_list, meta_list m h, torn_shape (metaH_length m) (fixL_length _ _)]
theorem bytes_ext {a b : ByteArray} (h : a.data.toList = b.data.toList) : a = b := by
  apply ByteArray.ext
  exact Array.toList_inj.1 h
theorem torn_size (m : Mt) (h : m.pages < 2 ^ 24) (k : Nat) : (tornS page0 (metaP m) k).size = 256 := by
  have e := congrArg List.length (torn_meta m h k)
  have : (tornS page0 (metaP m) k).size = (tornS page0 (metaP m) k).data.toList.length := by simp
  rw [this, e]
  cases bitAt k 0 <;> cases bitAt k 7 <;> simp only [if_true, if_false, Bool.false_eq_true, List.length_append, List.length_replicate, metaH_length, fixL_length, z32]
theorem torn_both (m : Mt) (h : m.pages < 2 ^ 24) (k : Nat) (h0 : bitAt k 0 = true) (h7 : bitAt k 7 = true) : tornS page0 (metaP m) k = metaP m := by
  apply bytes_ext
  rw [torn_meta m h k, meta_list m h, if_pos h0, if_pos h7]
theorem torn_kind (m : Mt) (h : m.pages < 2 ^ 24) (k : Nat) (h0 : bitAt k 0 = false) : byteAt (tornS page0 (metaP m) k) 0 = 0 := by
  have e : tornS page0 (metaP m) k = ⟨(tornS page0 (metaP m) k).data.toList.toArray⟩ := bytes_ext (by simp)
  rw [e, torn_meta m h k, h0, if_neg (by simp)]
  rw [byteAt_list _ 0 (by rw [List.length_append, z32, List.length_replicate]; omega)]
  rfl
theorem extract_list (s : ByteArray) (a b : Nat) : (s.extract a b).data.toList = (s.data.toList.drop a).take (b - a) := by
  rw [ByteArray.data_extract, Array.toList_extract, List.extract_eq_take_drop]
theorem torn_first (m : Mt) (h : m.pages < 2 ^ 24) (k : Nat) (h0 : bitAt k 0 = true) (h7 : bitAt k 7 = false) : crcS ((tornS page0 (metaP m) k).extract 0 252) = metaX m ∧ unfixN (tornS page0 (metaP m) k) 252 4 = 0 := by
  have hl := torn_meta m h k
  rw [h0, h7, if_pos rfl, if_neg (by simp)] at hl
  refine ⟨?_, ?_⟩
  · unfold metaX
    congr 1
    apply bytes_ext
    rw [extract_list, hl, ← List.append_assoc, List.drop_zero, List.take_left' (by rw [List.length_append, metaH_length, List.length_replicate])]
  · have e : tornS page0 (metaP m) k = ⟨((metaH m ++ List.replicate 220 0) ++ fixL 0 4 ++ []).toArray⟩ := bytes_ext (by
      rw [hl, List.toList_toArray, List.append_nil, List.append_assoc]
      rfl)
    rw [e]
    have e2 := unfix_fix (metaH m ++ List.replicate 220 0) [] 0 4 (by omega)
    rw [List.length_append, metaH_length, List.length_replicate] at e2
    exact e2

/-- What the page bears then. -/
theorem torn_is (m : Mt) (hm : m.ok) (h : m.pages < 2 ^ 24) (k : Nat) : ∃ r, PageIs (m.txn % 2) (tornS page0 (metaP m) k) r ∧ (r = none ∨ r = some m) ∧ (bitAt k 0 = true → bitAt k 7 = true → r = some m) ∧ (bitAt k 0 = false → r = none) := by
  cases h0 : bitAt k 0 with
  | false =>
    refine ⟨none, ?_, .inl rfl, (fun h => by cases h), fun _ => rfl⟩
    by_cases hc : unfixN (tornS page0 (metaP m) k) 252 4 = crcS ((tornS page0 (metaP m) k).extract 0 252)
    · exact ⟨4, by omega, fun w => page_open_form _ _ w (torn_size m h k) hc (by unfold formOK; rw [torn_kind m h k h0]; simp)⟩
    · exact pageIs_shut (torn_size m h k) hc
  | true =>
    cases h7 : bitAt k 7 with
    | true =>
      rw [torn_both m h k h0 h7]
      exact ⟨some m, ⟨hm, rfl, rfl⟩, .inr rfl, fun _ _ => rfl, (fun h => by cases h)⟩
    | false =>
      obtain ⟨e1, e2⟩ := torn_first m h k h0 h7
      by_cases hc : metaX m = 0
      · refine ⟨some m, ⟨hm, rfl, ?_⟩, .inr rfl, (fun _ h => by cases h), (fun h => by cases h)⟩
        apply bytes_ext
        rw [torn_meta m h k, meta_list m h, h0, h7, hc]
        rfl
      · refine ⟨none, pageIs_shut (torn_size m h k) ?_, .inl rfl, (fun _ h => by cases h), (fun h => by cases h)⟩
        rw [e1, e2]
        exact fun e => hc e.symm
end Go.Proofs.YtpoiopjggmhnjaaDoor
