/- What is sealed is opened as it was: the plain law. -/
import Derived.Test.YtpoiopjggmhnjaaDoorPOpenK
namespace Go.Proofs.YtpoiopjggmhnjaaDoor
open Go.RowKit

theorem byteAt_list (l : List UInt8) (i : Nat) (h : i < l.length) : byteAt ⟨l.toArray⟩ i = (l[i]).toNat := by
  unfold byteAt
  simp [h]

theorem unfix_sum (b : ByteArray) (at' v n : Nat) (h : ∀ i, i < n → byteAt b (at' + i) = v / 2 ^ (8 * i) % 256) : unfixN b at' n = v % 2 ^ (8 * n) := by
  induction n with
  | zero => simp [unfixN, Nat.mod_one]
  | succ n ih =>
    show unfixN b at' n + byteAt b (at' + n) * 2 ^ (8 * n) = _
    rw [ih (fun i hi => h i (by omega)), h n (by omega), show 8 * (n + 1) = 8 * n + 8 by omega, Nat.pow_add, Nat.mod_mul]
    exact congrArg (v % 2 ^ (8 * n) + ·) (Nat.mul_comm _ _)

theorem unfix_fix (pre post : List UInt8) (v n : Nat) (hv : v < 2 ^ (8 * n)) : unfixN ⟨(pre ++ fixL v n ++ post).toArray⟩ pre.length n = v := by
  rw [unfix_sum _ _ v n (fun i hi => ?_), Nat.mod_eq_of_lt hv]
  have hl : pre.length + i < (pre ++ fixL v n ++ post).length := by
    simp only [List.length_append, fixL_length]
    omega
  rw [byteAt_list _ _ hl]
  have hg : (pre ++ fixL v n ++ post)[pre.length + i] = (fixL v n)[i]'(by rw [fixL_length]; exact hi) := by
    rw [List.getElem_append_left (by simp only [List.length_append, fixL_length]; omega), List.getElem_append_right (by omega)]
    congr 1
    omega
  rw [hg]
  simp only [fixL, List.getElem_map, List.getElem_range]
  simp

section
variable {id next kind : Nat} {body : ByteArray}
theorem seal_core : (sealS id next kind body).extract 0 252 = ⟨(coreL id next kind body.data.toList).toArray⟩ ↔ ((sealL id next kind body.data.toList).take 252) = coreL id next kind body.data.toList := by
  have e : ((sealS id next kind body).extract 0 252).data.toList = (sealL id next kind body.data.toList).take 252 := by
    rw [ByteArray.data_extract, Array.toList_extract, List.extract_eq_take_drop]
    simp [sealS]
  constructor
  · intro h
    rw [← e, h]
  · intro h
    apply ByteArray.ext
    apply Array.ext'
    rw [e, h]

theorem seal_take (h : body.size ≤ 240) : (sealS id next kind body).extract 0 252 = ⟨(coreL id next kind body.data.toList).toArray⟩ := by
  rw [seal_core, sealL, List.take_left']
  exact coreL_length _ _ _ _ (by simpa using h)

theorem seal_sum (h : body.size ≤ 240) : unfixN (sealS id next kind body) 252 4 = crcS ((sealS id next kind body).extract 0 252) := by
  rw [seal_take h]
  have hl : (coreL id next kind body.data.toList).length = 252 := coreL_length _ _ _ _ (by simpa using h)
  have e := unfix_fix (coreL id next kind body.data.toList) [] (crcS ⟨(coreL id next kind body.data.toList).toArray⟩) 4 (crcS_lt _)
  rw [hl, List.append_nil] at e
  exact e

theorem seal_own (h : id < 2 ^ 32) : unfixN (sealS id next kind body) 1 4 = id := by
  have e := unfix_fix [UInt8.ofNat kind] (fixL next 4 ++ fixL body.data.toList.length 2 ++ body.data.toList ++ List.replicate (241 - body.data.toList.length) 0 ++ fixL (crcS ⟨(coreL id next kind body.data.toList).toArray⟩) 4) id 4 h
  unfold sealS sealL
  have e2 : coreL id next kind body.data.toList = [UInt8.ofNat kind] ++ fixL id 4 ++ (fixL next 4 ++ fixL body.data.toList.length 2 ++ body.data.toList ++ List.replicate (241 - body.data.toList.length) 0) := by simp [coreL, headL]
  generalize crcS ⟨(coreL id next kind body.data.toList).toArray⟩ = c at *
  rw [e2]
  simpa using e

theorem seal_next (h : next < 2 ^ 32) : unfixN (sealS id next kind body) 5 4 = next := by
  have e := unfix_fix ([UInt8.ofNat kind] ++ fixL id 4) (fixL body.data.toList.length 2 ++ body.data.toList ++ List.replicate (241 - body.data.toList.length) 0 ++ fixL (crcS ⟨(coreL id next kind body.data.toList).toArray⟩) 4) next 4 h
  unfold sealS sealL
  have e2 : coreL id next kind body.data.toList = [UInt8.ofNat kind] ++ fixL id 4 ++ fixL next 4 ++ (fixL body.data.toList.length 2 ++ body.data.toList ++ List.replicate (241 - body.data.toList.length) 0) := by simp [coreL, headL]
  generalize crcS ⟨(coreL id next kind body.data.toList).toArray⟩ = c at *
  rw [e2]
  have hl : ([UInt8.ofNat kind] ++ fixL id 4).length = 5 := by rw [List.length_append, fixL_length]; rfl
  rw [hl] at e
  simpa using e

theorem seal_len (h : body.size ≤ 240) : unfixN (sealS id next kind body) 9 2 = body.size := by
  have hb : body.data.toList.length = body.size := by simp
  have e := unfix_fix ([UInt8.ofNat kind] ++ fixL id 4 ++ fixL next 4) (body.data.toList ++ List.replicate (241 - body.data.toList.length) 0 ++ fixL (crcS ⟨(coreL id next kind body.data.toList).toArray⟩) 4) body.data.toList.length 2 (by omega)
  unfold sealS sealL
  have e2 : coreL id next kind body.data.toList = [UInt8.ofNat kind] ++ fixL id 4 ++ fixL next 4 ++ fixL body.data.toList.length 2 ++ (body.data.toList ++ List.replicate (241 - body.data.toList.length) 0) := by simp [coreL, headL]
  generalize crcS ⟨(coreL id next kind body.data.toList).toArray⟩ = c at *
  rw [e2]
  have hl : ([UInt8.ofNat kind] ++ fixL id 4 ++ fixL next 4).length = 9 := by rw [List.length_append, List.length_append, fixL_length, fixL_length]; rfl
  rw [hl] at e
  rw [← hb]
  simpa using e

theorem seal_kind (h : kind < 256) : byteAt (sealS id next kind body) 0 = kind := by
  unfold sealS
  rw [byteAt_list _ 0 (by simp [sealL, coreL, headL])]
  simp [sealL, coreL, headL]
  omega

theorem seal_body (h : body.size ≤ 240) : (sealS id next kind body).extract 11 (11 + body.size) = body := by
  have hb : body.data.toList.length = body.size := by simp
  apply ByteArray.ext
  apply Array.ext'
  rw [ByteArray.data_extract, Array.toList_extract, List.extract_eq_take_drop]
  show ((sealL id next kind body.data.toList).toArray.toList.drop 11).take (11 + body.size - 11) = _
  have e2 : sealL id next kind body.data.toList = ([UInt8.ofNat kind] ++ fixL id 4 ++ fixL next 4 ++ fixL body.data.toList.length 2) ++ (body.data.toList ++ (List.replicate (241 - body.data.toList.length) 0 ++ fixL (crcS ⟨(coreL id next kind body.data.toList).toArray⟩) 4)) := by simp [sealL, coreL, headL]
  have hl : ([UInt8.ofNat kind] ++ fixL id 4 ++ fixL next 4 ++ fixL body.data.toList.length 2).length = 11 := by simp only [List.length_append, fixL_length]; rfl
  rw [List.toList_toArray, e2, List.drop_left' hl, List.take_left' (by omega)]

theorem seal_tail (h : body.size ≤ 240) : ((sealS id next kind body).extract (11 + body.size) 252).data.toList.all (· == 0) = true := by
  have hb : body.data.toList.length = body.size := by simp
  rw [ByteArray.data_extract, Array.toList_extract, List.extract_eq_take_drop]
  have e2 : sealL id next kind body.data.toList = headL id next kind body.data.toList ++ (List.replicate (241 - body.data.toList.length) 0 ++ fixL (crcS ⟨(coreL id next kind body.data.toList).toArray⟩) 4) := by simp [sealL, coreL]
  show (((sealL id next kind body.data.toList).toArray.toList.drop (11 + body.size)).take (252 - (11 + body.size))).all _ = true
  rw [List.toList_toArray, e2, List.drop_left' (by rw [headL_length, hb]), List.take_left' (by rw [List.length_replicate]; omega)]
  simp

theorem seal_form (hi : id < 2 ^ 32) (hk : 1 ≤ kind) (hk2 : kind < 256) (h : body.size ≤ 240) (x : Int) : formOK x (sealS id next kind body) = decide (x = id) := by
  unfold formOK
  rw [seal_own hi, seal_kind hk2, seal_len h, seal_tail h]
  have : decide (body.size ≤ 240) = true := by simpa using h
  rw [this]
  have : (kind == 0) = false := by simp; omega
  rw [this]
  simp
  exact eq_comm
end

/-- What is sealed is opened as it was. -/
theorem open_seal (id next kind : Nat) (body : ByteArray) (w : World) (h1 : id < 2 ^ 32) (h2 : next < 2 ^ 32) (h3 : 1 ≤ kind) (h4 : kind ≤ 255) (h5 : body.size ≤ 240) :
    Calls Tryd.prog 30 #[.int .i64 id, .string (sealS id next kind body)] w fun e w' => e = .returned (.tuple #[pv kind next body, .int .i64 0]) ∧ Below w.heap.size w w' := by
  have e := page_open_ok id (sealS id next kind body) w (sealS_size _ _ _ _ h5) (seal_sum h5) (by rw [seal_form h1 h3 (by omega) h5]; simp)
  rw [seal_kind (by omega), seal_next h2, seal_len h5, seal_body h5] at e
  exact e

/-- .. but not as another number. -/
theorem open_other (id next kind : Nat) (x : Int) (body : ByteArray) (w : World) (h1 : id < 2 ^ 32) (h3 : 1 ≤ kind) (h4 : kind ≤ 255) (h5 : body.size ≤ 240) (hx : x ≠ id) :
    Calls Tryd.prog 30 #[.int .i64 x, .string (sealS id next kind body)] w fun e w' => e = .returned (.tuple #[pv 0 0 ByteArray.empty, .int .i64 4]) ∧ Below w.heap.size w w' :=
  page_open_form x (sealS id next kind body) w (sealS_size _ _ _ _ h5) (seal_sum h5) (by rw [seal_form h1 h3 (by omega) h5]; simpa using hx)
end Go.Proofs.YtpoiopjggmhnjaaDoor
