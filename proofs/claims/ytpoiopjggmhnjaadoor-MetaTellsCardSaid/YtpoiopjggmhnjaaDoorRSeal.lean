/- arboretumref1.Seal. -/
import Derived.Test.YtpoiopjggmhnjaaDoorRCrc
namespace Go.Proofs.YtpoiopjggmhnjaaDoor
open Go.RowKit
attribute [local go_sem ↓] Go.wp_at_zero Go.wp_at_succ

theorem core_eq (id next kind q : Nat) (body : ByteArray) (h4 : kind ≤ 255) (hq : 241 - body.size = q) :
    fixS kind 1 ++ fixS id 4 ++ fixS next 4 ++ fixS body.size 2 ++ body ++ ⟨(List.replicate q (0 : UInt8)).toArray⟩ = ⟨(coreL id next kind body.data.toList).toArray⟩ := by
  have e1 : fixL kind 1 = [UInt8.ofNat kind] := by
    unfold fixL
    simp [List.range_succ]
    rw [Nat.mod_eq_of_lt (by omega)]
  have e2 : body.data.toList.length = body.size := by simp
  apply ByteArray.ext
  apply Array.toList_inj.1
  simp only [ByteArray.data_append, Array.toList_append, fixS, e1, coreL, headL, e2, hq, List.append_assoc]
theorem seal_eq (id next kind : Nat) (body : ByteArray) :
    (⟨(coreL id next kind body.data.toList).toArray⟩ : ByteArray) ++ fixS (crcS ⟨(coreL id next kind body.data.toList).toArray⟩) 4 = sealS id next kind body := by
  apply ByteArray.ext
  apply Array.toList_inj.1
  simp only [ByteArray.data_append, Array.toList_append, fixS, sealS, sealL]

set_option maxHeartbeats 4000000 in
set_option maxRecDepth 100000 in
theorem ref_seal (id next kind : Nat) (body : ByteArray) (w : World) (h1 : id < 2 ^ 32) (h2 : next < 2 ^ 32) (h3 : 1 ≤ kind) (h4 : kind ≤ 255) (h5 : body.size ≤ 240) :
    Calls Tryd.prog 29 #[.int .i64 id, .agg #[.int .i64 kind, .int .i64 next, .string body]] w fun e w' => e = .returned (.tuple #[.string (sealS id next kind body), .int .i64 0]) ∧ Below w.heap.size w w' := by
  obtain ⟨q, hq⟩ : ∃ q : Nat, 241 - body.size = q := ⟨_, rfl⟩
  have hq2 : (q : Int) = 241 - (body.size : Int) := by omega
  have HE1 := Lib.hid (core_eq id next kind q body h4 hq)
  have HE2 := Lib.hid (seal_eq id next kind body)
  have HCT := Lib.hid (crcS_lt ⟨(coreL id next kind body.data.toList).toArray⟩)
  have HCZ : Hid ((⟨(coreL id next kind body.data.toList).toArray⟩ : ByteArray).size = 252) := Lib.hid (by
    show (coreL id next kind body.data.toList).toArray.size = 252
    rw [List.size_toArray, coreL_length _ _ _ _ (by simpa using h5)])
  generalize (⟨(coreL id next kind body.data.toList).toArray⟩ : ByteArray) = core at *
  have HF1 := Lib.hid (fun w => ref_fixs kind 1 w (by omega) (by omega) (by omega) (by omega))
  have HF2 := Lib.hid (fun w => ref_fixs id 4 w (by omega) (by omega) (by omega) (by omega))
  have HF3 := Lib.hid (fun w => ref_fixs next 4 w (by omega) (by omega) (by omega) (by omega))
  have HF4 := Lib.hid (fun w => ref_fixs body.size 2 w (by omega) (by omega) (by omega) (by omega))
  have HF5 := Lib.hid (fun w => ref_fixs (crcS core) 4 w (by have := HCT.out; omega) (by omega) (by omega) (by have := HCT.out; omega))
  have HCR := Lib.hid (fun w => ref_crc core w (by have := HCZ.out; omega))
  have hz1 := fixS_size kind 1
  have hz2 := fixS_size id 4
  have hz3 := fixS_size next 4
  have hz4 := fixS_size body.size 2
  have a1 : ¬ ((4294967295 : Int) < (id : Int)) := by omega
  have a2 : ¬ ((4294967295 : Int) < (next : Int)) := by omega
  have a3 : ¬ ((kind : Int) < 1) := by omega
  have a4 : ¬ ((255 : Int) < (kind : Int)) := by omega
  have a5 : ¬ ((240 : Int) < (body.size : Int)) := by omega
  have a6 : ¬ (9223372036854775807 < 11 + body.size) := by omega
  obtain ⟨i0, hi0, hm0, hm1, hm2⟩ := info_parts info_u8
  clear h1 h2 h3 h4
  generalize fixS kind 1 = S1 at *
  generalize fixS id 4 = S2 at *
  generalize fixS next 4 = S3 at *
  generalize fixS body.size 2 = S4 at *
  go_enter Tryd.func29, Tryd.ntmps29
  have c0 : (w.alloc (.cells #[.int .i64 kind, .int .i64 next, .string body] 54)).cell? ⟨w.heap.size, 0, none⟩ = some (.int .i64 kind) := by go_simp
  have c1 : (w.alloc (.cells #[.int .i64 kind, .int .i64 next, .string body] 54)).cell? ⟨w.heap.size, 1, none⟩ = some (.int .i64 next) := by clear c0; go_simp
  have c2 : (w.alloc (.cells #[.int .i64 kind, .int .i64 next, .string body] 54)).cell? ⟨w.heap.size, 2, none⟩ = some (.string body) := by clear c0 c1; go_simp
  have HB0 : Hid (Below w.heap.size w (w.alloc (.cells #[.int .i64 kind, .int .i64 next, .string body] 54)).drew) := Lib.hid (((Below.refl _ w).alloc (Nat.le_refl _) _).drew)
  go_wp2_with fail
  generalize w.alloc (.cells #[.int .i64 kind, .int .i64 next, .string body] 54) = W at *
  go_region_held3 (fun w' => w'.cell? ⟨w.heap.size, 0, none⟩ = some (.int .i64 kind) ∧ w'.cell? ⟨w.heap.size, 1, none⟩ = some (.int .i64 next) ∧ w'.cell? ⟨w.heap.size, 2, none⟩ = some (.string body))
    (first | go_keep | (go_split_ands; refine ⟨?_, ?_, ?_⟩ <;> (first | exact bkeep hb4 (by assumption) | exact bkeep hb3 (by assumption) | exact bkeep hb2 (by assumption) | exact bkeep hb1 (by assumption))))
    (first
      | (go_at_call 53; refine (HF4.out w3).mono ?_; rintro e w4 ⟨rfl, hb4⟩; have HB4 : Hid (Below w.heap.size w w4) := Lib.hid (HB3.out.trans (hb4.mono HB3.out.size)))
      | (go_at_call 53; refine (HF3.out w2).mono ?_; rintro e w3 ⟨rfl, hb3⟩; have HB3 : Hid (Below w.heap.size w w3) := Lib.hid (HB2.out.trans (hb3.mono HB2.out.size)))
      | (go_at_call 53; refine (HF2.out w1).mono ?_; rintro e w2 ⟨rfl, hb2⟩; have HB2 : Hid (Below w.heap.size w w2) := Lib.hid (HB1.out.trans (hb2.mono HB1.out.size)))
      | (go_at_call 53; refine (HF1.out W.drew).mono ?_; rintro e w1 ⟨rfl, hb1⟩; have HB1 : Hid (Below w.heap.size w w1) := Lib.hid (HB0.out.trans (hb1.mono HB0.out.size))))
  have HBX : Hid (Below w.heap.size w w4) := HB4
  clear HF1 HF2 HF3 HF4 c0 c1 c2 hb1 hb2 hb3 hb4 HB0 HB1 HB2 HB3
  have hzz := zeros_size q
  have hrz : ∀ j, j < q → (madeCells (Value.int .u8 0).cells (q * 1)).toList[j]? = some (Value.int .u8 (((List.replicate q (0 : UInt8))[j]?.getD 0).toNat : Int)) := fun j hj2 => by
    have e3 : (Value.int .u8 0).cells = #[Value.int .u8 0] := rfl
    rw [e3, toList_madeCells_one, Nat.mul_one, List.getElem?_replicate, if_pos hj2, List.getElem?_replicate, if_pos hj2]
    rfl
  have HRZ := Lib.hid hrz
  clear hrz
  have HLZ : Hid ((List.replicate q (0 : UInt8)).length = q) := Lib.hid List.length_replicate
  have a7 : ¬ (9223372036854775807 < 11 + body.size + q) := by omega
  have a8 : ¬ (9223372036854775807 < core.size + 4) := by have := HCZ.out; omega
  have hf4 := fixS_size (crcS core) 4
  generalize hL : List.replicate q (0 : UInt8) = L at *
  clear hL
  go_wp2_with (refine wpList_make_full _ rfl _ _ _ rfl w4.heap.size 5 i0 _ 1 Tryd.underlying29 hi0 hm0 hm1 .i64 .i64 _ _ q rfl rfl ?l1 ?l2 (by rw [hm2]; omega) (by unfold maxLen; omega) (Nat.le_refl _) ?_; (case l1 => omega); (case l2 => omega); intro w5 how hgr; have HO := Lib.hid how; have HG := Lib.hid hgr; clear how hgr; have HB5 : Hid (Below w.heap.size w w5) := Lib.hid (HBX.out.grown HG.out HBX.out.size (fun k hk => by cases hk)); have hcv : (convert 29 9 (.slice (some ⟨w4.heap.size, 0, none⟩) q q)).run Tryd.prog w5 = .ok (.string ⟨L.toArray⟩) w5 := (by
    have e := run_convert_bytes_back (P := Tryd.prog) w5 29 9 5 ⟨w4.heap.size, 0, none⟩ q L Tryd.underlying29 Tryd.underlying5 Tryd.underlying9 (fun j hj => by
      refine HO.out.cells (g := w4.heap.size) rfl j _ ?_
      rw [HRZ.out j (by rw [HLZ.out] at hj; exact hj), List.getElem?_eq_getElem hj]
      rfl)
    rw [HLZ.out] at e
    exact e))
  rw [HE1.out]
  refine (HCR.out _).mono ?_
  rintro e w6 ⟨rfl, rfl⟩
  go_wp2_with fail
  refine (HF5.out _).mono ?_
  rintro e w7 ⟨rfl, hb7⟩
  have HB7 : Hid (Below w.heap.size w w7) := Lib.hid (HB5.out.trans (hb7.mono HB5.out.size))
  clear hb7
  go_wp2
  go_ret2
  exact ⟨by rw [HE2.out]; rfl, HB7.out⟩
end Go.Proofs.YtpoiopjggmhnjaaDoor
