/- Chapter 10, the plain law: what a chain's pages bear makes the value. -/
import Derived.Test.YtlocadmiomglaaaGreatDoorOverL
namespace Go.Proofs.YtlocadmiomglaaaGreatDoor
open Go.RowKit Go.Maps Go.Conc

theorem piece_size (v : ByteArray) (j : Nat) : (pieceAt v j).size = min 240 (v.size - 240 * j) := by
  unfold pieceAt
  rw [ByteArray.size_extract]
  omega
theorem cut_at (v : ByteArray) (j : Nat) (hj : j < cutN v) : (cutL v).getD j default = pieceAt v j := by
  unfold cutL cutU
  rw [List.getD_eq_getElem?_getD, List.getElem?_map, List.getElem?_range hj]
  rfl
theorem cutL_length (v : ByteArray) : (cutL v).length = cutN v := cutU_length v _
theorem cut_lt (v : ByteArray) (j : Nat) : j < cutN v ↔ 240 * j < v.size := by
  unfold cutN
  omega
/-- What the builder holds behind j pages. -/
def sofar (v : ByteArray) (j : Nat) : List UInt8 := v.data.toList.take (240 * j)
theorem sofar_zero (v : ByteArray) : sofar v 0 = [] := by simp [sofar]
theorem sofar_length (v : ByteArray) (j : Nat) (h : 240 * j ≤ v.size) : (sofar v j).length = 240 * j := by
  unfold sofar
  rw [List.length_take, Array.length_toList]
  have : v.data.size = v.size := rfl
  omega
theorem sofar_succ (v : ByteArray) (j : Nat) : sofar v j ++ (pieceAt v j).data.toList = sofar v (j + 1) := by
  unfold sofar pieceAt
  rw [ByteArray.data_extract, Array.toList_extract, List.extract_eq_take_drop, show 240 * j + 240 - 240 * j = 240 by omega, show 240 * (j + 1) = 240 * j + 240 by omega, List.take_add]
theorem sofar_all (v : ByteArray) (j : Nat) (h : v.size ≤ 240 * j) : (⟨(sofar v j).toArray⟩ : ByteArray) = v := by
  apply ByteArray.ext
  unfold sofar
  rw [List.take_of_length_le (by rw [Array.length_toList]; exact h)]

/-- The j-th page of a chain points on, and the last one nowhere. -/
theorem chain_next {is : List Int} (hpos : ∀ i ∈ is, (2 : Int) ≤ i) (j : Nat) : (((is.drop (j + 1)).headD 0 = 0) ↔ is.length ≤ j + 1) ∧ (j + 1 < is.length → (is.drop (j + 1)).headD 0 = HL.el is (j + 1)) := by
  have h2 : j + 1 < is.length → (is.drop (j + 1)).headD 0 = HL.el is (j + 1) := fun h => by
    rw [List.drop_eq_getElem_cons h]
    simp [HL.el, h]
  refine ⟨⟨fun h => ?_, fun h => by rw [List.drop_of_length_le h]; rfl⟩, h2⟩
  refine Nat.le_of_not_lt (fun hl => ?_)
  rw [h2 hl] at h
  have hm : HL.el is (j + 1) ∈ is := by
    have e9 : HL.el is (j + 1) = is[j + 1] := by simp [HL.el, hl]
    rw [e9]
    exact List.getElem_mem hl
  have := hpos _ hm
  omega
end Go.Proofs.YtlocadmiomglaaaGreatDoor
