/- page.Seal. -/
import Derived.Test.YtpoiopjggmhnjaaDoorBuild
import Derived.Test.YtpoiopjggmhnjaaDoorCrc
namespace Go.Proofs.YtpoiopjggmhnjaaDoor
open Go.RowKit

theorem Bd.keep {B b : Nat} {l : List UInt8} {w w' : World} (h : Bd B b l w) (hb : Below w.heap.size w w') : Bd B b l w' := by
  have key : ∀ p, Lib.BuilderAtF 85 5 B b p (Lib.byteCells l) w → Lib.BuilderAtF 85 5 B b p (Lib.byteCells l) w' := by
    rintro p ⟨hB, v, hbk, hown, hne⟩
    have hlt : b < w.heap.size := (Array.getElem?_eq_some_iff.1 hbk).1
    refine ⟨hB, v, (hb.block b hlt).trans hbk, ?_, hne⟩
    refine ⟨hown.1, ?_⟩
    rcases hown.2 with h | ⟨g, cap, cur, fz, hv, hg, hgg, rest⟩
    · exact .inl h
    · exact .inr ⟨g, cap, cur, fz, hv, hg, (hb.block g (Array.getElem?_eq_some_iff.1 hgg).1).trans hgg, rest⟩
  exact h.elim (fun h => .inl (key _ h)) (fun h => .inr (key _ h))
theorem Bd.lt {B b : Nat} {l : List UInt8} {w : World} (h : Bd B b l w) : b < w.heap.size := by
  rcases h with h | h
  · exact h.lt
  · exact h.lt

set_option maxRecDepth 100000 in
theorem in_yes (n a z : Int) (w : World) (h1 : a ≤ n) (h2 : n ≤ z) : Calls Tryd.prog 46 #[.int .i64 n, .int .i64 a, .int .i64 z] w fun e w' => e = .returned (.bool true) ∧ w' = w := by
  go_enter Tryd.func46, Tryd.ntmps46
  go_wp2
  go_ret
  exact ⟨rfl, rfl⟩

set_option maxRecDepth 100000 in
theorem in_no (n a z : Int) (w : World) (h : n < a ∨ z < n) : Calls Tryd.prog 46 #[.int .i64 n, .int .i64 a, .int .i64 z] w fun e w' => e = .returned (.bool false) ∧ w' = w := by
  by_cases h1 : n < a
  · clear h
    go_enter Tryd.func46, Tryd.ntmps46
    go_wp2
    go_ret
    exact ⟨rfl, rfl⟩
  · have h2 : decide (n ≤ z) = false := by have := h.resolve_left h1; simp; omega
    clear h
    go_enter Tryd.func46, Tryd.ntmps46
    go_wp2
    go_ret
    exact ⟨rfl, rfl⟩

set_option maxHeartbeats 1000000 in
set_option maxRecDepth 100000 in
theorem page_put (B b v n : Nat) (l : List UInt8) (w : World) (h : Bd B b l w) (hlen : l.length ≤ 10000) (hBw : B ≤ w.heap.size) (hv : v < 2 ^ (8 * n)) (h1 : 1 ≤ n) (h2 : n ≤ 7) (hm : (v : Int) ≤ 9223372036854775807) :
    Calls Tryd.prog 48 #[.pointer (some ⟨b, 0, none⟩), .int .i64 v, .int .i64 n] w fun e w' => e = .returned (.tuple #[]) ∧ Bd B b (l ++ fixL v n) w' ∧ Below B w w' := by
  have HF := Lib.hid (num_fix v n w hv h1 h2 hm)
  have HB := Lib.hid h
  clear h hv
  go_enter Tryd.func48, Tryd.ntmps48
  go_wp2_with fail
  refine HF.out.mono ?_
  rintro e w1 ⟨rfl, hb1⟩
  have HW := Lib.hid (bd_string B b l (fixS v n) w1 (HB.out.keep hb1) (by rw [fixS_size]; omega) (Nat.le_trans hBw hb1.size))
  have HB1 := Lib.hid (hb1.mono hBw)
  clear hb1 HF
  go_wp2_with fail
  refine HW.out.mono ?_
  rintro e w2 ⟨rfl, hbd, hb2⟩
  have HBE := Lib.hid (HB1.out.trans hb2)
  have HBD := Lib.hid hbd
  clear hb2 hbd HW
  go_wp2
  go_end0
  exact ⟨rfl, HBD.out, HBE.out⟩

set_option maxRecDepth 100000 in
theorem page_get (b : ByteArray) (at' n : Nat) (w : World) (h : at' + n ≤ b.size) (h1 : 1 ≤ n) (h2 : n ≤ 7) (hb : b.size ≤ 1000000) :
    Calls Tryd.prog 55 #[.string b, .int .i64 at', .int .i64 n] w fun e w' => e = .returned (.int .i64 (unfixN b at' n : Nat)) ∧ w' = w := by
  have HU := Lib.hid (num_unfix b at' n w h h1 h2 hb)
  clear h
  go_enter Tryd.func55, Tryd.ntmps55
  go_wp2_with fail
  refine HU.out.mono ?_
  rintro e w1 ⟨rfl, rfl⟩
  go_wp2
  go_ret
  exact ⟨rfl, rfl⟩

def headL (id next kind : Nat) (body : List UInt8) : List UInt8 := [UInt8.ofNat kind] ++ fixL id 4 ++ fixL next 4 ++ fixL body.length 2 ++ body
theorem headL_length (id next kind : Nat) (body : List UInt8) : (headL id next kind body).length = 11 + body.length := by
  unfold headL
  simp only [List.length_append, fixL_length, List.length_cons, List.length_nil]
def coreL (id next kind : Nat) (body : List UInt8) : List UInt8 := headL id next kind body ++ List.replicate (241 - body.length) 0
theorem coreL_length (id next kind : Nat) (body : List UInt8) (h : body.length ≤ 240) : (coreL id next kind body).length = 252 := by
  unfold coreL
  rw [List.length_append, headL_length, List.length_replicate]
  omega
def sealL (id next kind : Nat) (body : List UInt8) : List UInt8 := coreL id next kind body ++ fixL (crcS ⟨(coreL id next kind body).toArray⟩) 4
def sealS (id next kind : Nat) (body : ByteArray) : ByteArray := ⟨(sealL id next kind body.data.toList).toArray⟩
theorem sealS_size (id next kind : Nat) (body : ByteArray) (h : body.size ≤ 240) : (sealS id next kind body).size = 256 := by
  show (sealL id next kind body.data.toList).toArray.size = 256
  rw [List.size_toArray, sealL, List.length_append, coreL_length _ _ _ _ (by simpa using h), fixL_length]
theorem crcS_lt (s : ByteArray) : crcS s < 2 ^ 32 := by unfold crcS; omega
theorem zeros_size (q : Nat) : (⟨(List.replicate q (0 : UInt8)).toArray⟩ : ByteArray).size = q := by
  show (List.replicate q (0 : UInt8)).toArray.size = q
  rw [List.size_toArray, List.length_replicate]
theorem repeat_zero (n : Nat) : Lib.repeatL [0] n = List.replicate n 0 := by
  induction n with
  | zero => rfl
  | succ n ih => rw [List.replicate_succ, ← ih]; rfl

set_option maxHeartbeats 4000000 in
set_option maxRecDepth 100000 in
theorem page_seal (id next kind : Nat) (body : ByteArray) (w : World) (h1 : id < 2 ^ 32) (h2 : next < 2 ^ 32) (h3 : 1 ≤ kind) (h4 : kind ≤ 255) (h5 : body.size ≤ 240) :
    Calls Tryd.prog 27 #[.int .i64 id, .agg #[.int .i64 kind, .int .i64 next, .string body]] w fun e w' => e = .returned (.tuple #[.string (sealS id next kind body), .int .i64 0]) ∧ Below w.heap.size w w' := by
  have HI1 := Lib.hid (fun w => in_yes id 0 4294967295 w (by omega) (by omega))
  have HI2 := Lib.hid (fun w => in_yes next 0 4294967295 w (by omega) (by omega))
  have HI3 := Lib.hid (fun w => in_yes kind 1 255 w (by omega) (by omega))
  have HL1 := Lib.hid h1
  have HL2 := Lib.hid h2
  clear h1 h2
  go_enter Tryd.func27, Tryd.ntmps27
  go_wp2_with fail
  refine (HI1.out _).mono ?_
  rintro e w1 ⟨rfl, rfl⟩
  go_wp2_with fail
  refine (HI2.out _).mono ?_
  rintro e w1 ⟨rfl, rfl⟩
  go_wp2_with fail
  refine (HI3.out _).mono ?_
  rintro e w1 ⟨rfl, rfl⟩
  have c0 : ((w.alloc (.cells #[.int .i64 kind, .int .i64 next, .string body] 54)).alloc (.cells #[.pointer none, .slice none 0 0] 85)).cell? ⟨w.heap.size, 0, none⟩ = some (.int .i64 kind) := by go_simp
  have c1 : ((w.alloc (.cells #[.int .i64 kind, .int .i64 next, .string body] 54)).alloc (.cells #[.pointer none, .slice none 0 0] 85)).cell? ⟨w.heap.size, 1, none⟩ = some (.int .i64 next) := by clear c0; go_simp
  have c2 : ((w.alloc (.cells #[.int .i64 kind, .int .i64 next, .string body] 54)).alloc (.cells #[.pointer none, .slice none 0 0] 85)).cell? ⟨w.heap.size, 2, none⟩ = some (.string body) := by clear c0 c1; go_simp
  have hbn : Bd (w.heap.size + 1) (w.heap.size + 1) [] ((w.alloc (.cells #[.int .i64 kind, .int .i64 next, .string body] 54)).alloc (.cells #[.pointer none, .slice none 0 0] 85)) := by
    have e := bd_new (w.alloc (.cells #[.int .i64 kind, .int .i64 next, .string body] 54))
    rw [World.size_alloc] at e
    exact e
  have hbw : Below w.heap.size w ((w.alloc (.cells #[.int .i64 kind, .int .i64 next, .string body] 54)).alloc (.cells #[.pointer none, .slice none 0 0] 85)) := ((Below.refl _ w).alloc (Nat.le_refl _) _).alloc (by simp) _
  have hsz : w.heap.size + 1 ≤ ((w.alloc (.cells #[.int .i64 kind, .int .i64 next, .string body] 54)).alloc (.cells #[.pointer none, .slice none 0 0] 85)).heap.size := by simp
  obtain ⟨W, hW⟩ : ∃ W, (w.alloc (.cells #[.int .i64 kind, .int .i64 next, .string body] 54)).alloc (.cells #[.pointer none, .slice none 0 0] 85) = W := ⟨_, rfl⟩
  rw [hW] at c0 c1 c2 hbn hbw hsz
  have HW := Lib.hid hW
  have HBW := Lib.hid hbw
  have HBN := Lib.hid hbn
  clear hW hbn hbw
  have hk8 : ((UInt8.ofNat kind).toNat : Int) = (kind : Int) := by simp; omega
  have HY1 : Hid (Calls Tryd.prog 47 #[.pointer (some ⟨w.heap.size + 1, 0, none⟩), .int .u8 kind] W fun e w' => e = .returned (.nilIface) ∧ Bd (w.heap.size + 1) (w.heap.size + 1) ([] ++ [UInt8.ofNat kind]) w' ∧ Below (w.heap.size + 1) W w') := Lib.hid (by have e := bd_byte (w.heap.size + 1) (w.heap.size + 1) [] (UInt8.ofNat kind) W HBN.out (by simp) hsz; rw [hk8] at e; exact e)
  go_wp2_with fail
  rw [HW.out]
  refine HY1.out.mono ?_
  rintro e v1 ⟨rfl, hbd, hb⟩
  have HD1 := Lib.hid hbd
  have HBW := Lib.hid (HBW.out.trans (hb.mono (by omega)))
  have hsz_1 := Nat.le_trans hsz hb.size
  have c0_1 := (hb.cell (p := ⟨w.heap.size, 0, none⟩) (by show w.heap.size < _; omega)).trans c0
  have c1_1 := (hb.cell (p := ⟨w.heap.size, 1, none⟩) (by show w.heap.size < _; omega)).trans c1
  have c2_1 := (hb.cell (p := ⟨w.heap.size, 2, none⟩) (by show w.heap.size < _; omega)).trans c2
  clear c0 c1 c2 hsz hbd hb HY1
  clear hk8
  have HY2 : Hid (Calls Tryd.prog 48 #[.pointer (some ⟨w.heap.size + 1, 0, none⟩), .int .i64 id, .int .i64 4] v1 fun e w' => e = .returned (.tuple #[]) ∧ Bd (w.heap.size + 1) (w.heap.size + 1) ([] ++ [UInt8.ofNat kind] ++ fixL id 4) w' ∧ Below (w.heap.size + 1) v1 w') := Lib.hid (page_put (w.heap.size + 1) (w.heap.size + 1) id 4 _ _ HD1.out (by simp) hsz_1 HL1.out (by omega) (by omega) (by have := HL1.out; omega))
  go_wp2_with fail
  refine HY2.out.mono ?_
  rintro e v2 ⟨rfl, hbd, hb⟩
  have HD2 := Lib.hid hbd
  have HBW := Lib.hid (HBW.out.trans (hb.mono (by omega)))
  have hsz_2 := Nat.le_trans hsz_1 hb.size
  have c0_2 := (hb.cell (p := ⟨w.heap.size, 0, none⟩) (by show w.heap.size < _; omega)).trans c0_1
  have c1_2 := (hb.cell (p := ⟨w.heap.size, 1, none⟩) (by show w.heap.size < _; omega)).trans c1_1
  have c2_2 := (hb.cell (p := ⟨w.heap.size, 2, none⟩) (by show w.heap.size < _; omega)).trans c2_1
  clear c0_1 c1_1 c2_1 hsz_1 hbd hb HY2
  have HY3 : Hid (Calls Tryd.prog 48 #[.pointer (some ⟨w.heap.size + 1, 0, none⟩), .int .i64 next, .int .i64 4] v2 fun e w' => e = .returned (.tuple #[]) ∧ Bd (w.heap.size + 1) (w.heap.size + 1) ([] ++ [UInt8.ofNat kind] ++ fixL id 4 ++ fixL next 4) w' ∧ Below (w.heap.size + 1) v2 w') := Lib.hid (page_put (w.heap.size + 1) (w.heap.size + 1) next 4 _ _ HD2.out (by simp [fixL_length]) hsz_2 HL2.out (by omega) (by omega) (by have := HL2.out; omega))
  go_wp2_with fail
  refine HY3.out.mono ?_
  rintro e v3 ⟨rfl, hbd, hb⟩
  have HD3 := Lib.hid hbd
  have HBW := Lib.hid (HBW.out.trans (hb.mono (by omega)))
  have hsz_3 := Nat.le_trans hsz_2 hb.size
  have c0_3 := (hb.cell (p := ⟨w.heap.size, 0, none⟩) (by show w.heap.size < _; omega)).trans c0_2
  have c1_3 := (hb.cell (p := ⟨w.heap.size, 1, none⟩) (by show w.heap.size < _; omega)).trans c1_2
  have c2_3 := (hb.cell (p := ⟨w.heap.size, 2, none⟩) (by show w.heap.size < _; omega)).trans c2_2
  clear c0_2 c1_2 c2_2 hsz_2 hbd hb HY3
  have HY4 : Hid (Calls Tryd.prog 48 #[.pointer (some ⟨w.heap.size + 1, 0, none⟩), .int .i64 body.size, .int .i64 2] v3 fun e w' => e = .returned (.tuple #[]) ∧ Bd (w.heap.size + 1) (w.heap.size + 1) ([] ++ [UInt8.ofNat kind] ++ fixL id 4 ++ fixL next 4 ++ fixL body.size 2) w' ∧ Below (w.heap.size + 1) v3 w') := Lib.hid (page_put (w.heap.size + 1) (w.heap.size + 1) body.size 2 _ _ HD3.out (by simp [fixL_length]) hsz_3 (by omega) (by omega) (by omega) (by omega))
  go_wp2_with fail
  refine HY4.out.mono ?_
  rintro e v4 ⟨rfl, hbd, hb⟩
  have HD4 := Lib.hid hbd
  have HBW := Lib.hid (HBW.out.trans (hb.mono (by omega)))
  have hsz_4 := Nat.le_trans hsz_3 hb.size
  have c0_4 := (hb.cell (p := ⟨w.heap.size, 0, none⟩) (by show w.heap.size < _; omega)).trans c0_3
  have c1_4 := (hb.cell (p := ⟨w.heap.size, 1, none⟩) (by show w.heap.size < _; omega)).trans c1_3
  have c2_4 := (hb.cell (p := ⟨w.heap.size, 2, none⟩) (by show w.heap.size < _; omega)).trans c2_3
  clear c0_3 c1_3 c2_3 hsz_3 hbd hb HY4
  have HY5 : Hid (Calls Tryd.prog 49 #[.pointer (some ⟨w.heap.size + 1, 0, none⟩), .string body] v4 fun e w' => e = .returned (.tuple #[.int .i64 body.size, .nilIface]) ∧ Bd (w.heap.size + 1) (w.heap.size + 1) ([] ++ [UInt8.ofNat kind] ++ fixL id 4 ++ fixL next 4 ++ fixL body.size 2 ++ body.data.toList) w' ∧ Below (w.heap.size + 1) v4 w') := Lib.hid (bd_string (w.heap.size + 1) (w.heap.size + 1) _ body _ HD4.out (by simp [fixL_length]; omega) hsz_4)
  go_wp2_with fail
  refine HY5.out.mono ?_
  rintro e v5 ⟨rfl, hbd, hb⟩
  have HD5 := Lib.hid hbd
  have HBW := Lib.hid (HBW.out.trans (hb.mono (by omega)))
  have hsz_5 := Nat.le_trans hsz_4 hb.size
  have c0_5 := (hb.cell (p := ⟨w.heap.size, 0, none⟩) (by show w.heap.size < _; omega)).trans c0_4
  have c1_5 := (hb.cell (p := ⟨w.heap.size, 1, none⟩) (by show w.heap.size < _; omega)).trans c1_4
  have c2_5 := (hb.cell (p := ⟨w.heap.size, 2, none⟩) (by show w.heap.size < _; omega)).trans c2_4
  clear c0_4 c1_4 c2_4 hsz_4 hbd hb HY5
  have HLL : Hid (([] ++ [UInt8.ofNat kind] ++ fixL id 4 ++ fixL next 4 ++ fixL body.size 2 ++ body.data.toList) = headL id next kind body.data.toList) := Lib.hid (by simp [headL])
  rw [HLL.out] at HD5
  have HLN := Lib.hid (bd_len (w.heap.size + 1) (w.heap.size + 1) _ _ HD5.out)
  rw [headL_length] at HLN
  obtain ⟨q, hq⟩ : ∃ q : Nat, 241 - body.size = q := ⟨_, rfl⟩
  have hql : 1 ≤ q ∧ q ≤ 241 := by omega
  have hqi : (252 : Int) - (11 + (body.size : Int)) = (q : Int) := by omega
  have HQ : Hid (body.data.toList.length = body.size ∧ 241 - body.size = q) := Lib.hid ⟨by simp, hq⟩
  clear hq
  have HRP : Hid (∀ w, Calls Tryd.prog 36 #[.string ⟨#[0]⟩, .int .i64 (252 - (11 + (body.size : Int)))] w fun e w' => e = .returned (.string ⟨(List.replicate q 0).toArray⟩) ∧ Below w.heap.size w w') := Lib.hid (fun w => by
    have e := Tryd.strings_Repeat ⟨#[0]⟩ q w (by omega) (by simp [ByteArray.size]; omega)
    rw [hqi]
    have e2 : (⟨#[0]⟩ : ByteArray).data.toList = [0] := rfl
    rw [e2, repeat_zero] at e
    exact e)
  clear hqi
  go_wp2_with fail
  refine HLN.out.mono ?_
  rintro e v9 ⟨rfl, rfl⟩
  go_wp2_with fail
  refine (HRP.out _).mono ?_
  rintro e v10 ⟨rfl, hb⟩
  have HD6 := Lib.hid (HD5.out.keep hb)
  have HBW6 := Lib.hid (HBW.out.trans (hb.mono (by omega)))
  have hsz_6 := Nat.le_trans hsz_5 hb.size
  clear hb c0_5 c1_5 c2_5 hsz_5 HRP HLN
  have HY7 := Lib.hid (bd_string (w.heap.size + 1) (w.heap.size + 1) _ ⟨(List.replicate q 0).toArray⟩ _ HD6.out (by rw [headL_length, HQ.out.1, zeros_size]; omega) hsz_6)
  go_wp2_with fail
  refine HY7.out.mono ?_
  rintro e v11 ⟨rfl, hbd, hb⟩
  have HCO : Hid (headL id next kind body.data.toList ++ (⟨(List.replicate q 0).toArray⟩ : ByteArray).data.toList = coreL id next kind body.data.toList) := Lib.hid (by
    unfold coreL
    rw [HQ.out.1, HQ.out.2])
  rw [HCO.out] at hbd
  have HD7 := Lib.hid hbd
  have HBW7 := Lib.hid (HBW6.out.trans (hb.mono (by omega)))
  have hsz_7 := Nat.le_trans hsz_6 hb.size
  clear hbd hb HY7 HD6 HBW6
  have HCL : Hid ((coreL id next kind body.data.toList).length = 252) := Lib.hid (coreL_length _ _ _ _ (by rw [HQ.out.1]; exact h5))
  have HSE : Hid (sealS id next kind body = ⟨(coreL id next kind body.data.toList ++ fixL (crcS ⟨(coreL id next kind body.data.toList).toArray⟩) 4).toArray⟩) := Lib.hid rfl
  generalize coreL id next kind body.data.toList = core at *
  have HY8 := Lib.hid (bd_all (w.heap.size + 1) (w.heap.size + 1) _ _ HD7.out hsz_7)
  go_wp2_with fail
  refine HY8.out.mono ?_
  rintro e v12 ⟨rfl, hbd, hb⟩
  have HD8 := Lib.hid hbd
  have HBW8 := Lib.hid (HBW7.out.trans (hb.mono (by omega)))
  have hsz_8 := Nat.le_trans hsz_7 hb.size
  clear hbd hb HY8 HD7 HBW7
  have hsc : (⟨core.toArray⟩ : ByteArray).size = 252 := by
    show core.toArray.size = 252
    rw [List.size_toArray, HCL.out]
  have HCR := Lib.hid (num_crc ⟨core.toArray⟩ v12.heap.size 1 (v12.alloc (.cells #[.string ⟨core.toArray⟩] 9)) (by have e := new_cells v12 [.string ⟨core.toArray⟩] 9 0 _ rfl; rw [add_at0] at e; exact e) (by omega))
  have HCT := Lib.hid (crcS_lt ⟨core.toArray⟩)
  have HD9 := Lib.hid (HD8.out.keep ((Below.refl _ v12).alloc (Nat.le_refl _) (.cells #[.string ⟨core.toArray⟩] 9)))
  have HBW9 : Hid (Below w.heap.size w (v12.alloc (.cells #[.string ⟨core.toArray⟩] 9))) := Lib.hid (HBW8.out.alloc (by omega) _)
  clear hsc
  generalize crcS ⟨core.toArray⟩ = cr at *
  have HP9 : Hid (Calls Tryd.prog 48 #[.pointer (some ⟨w.heap.size + 1, 0, none⟩), .int .i64 cr, .int .i64 4] (v12.alloc (.cells #[.string ⟨core.toArray⟩] 9)) fun e w' => e = .returned (.tuple #[]) ∧ Bd (w.heap.size + 1) (w.heap.size + 1) (core ++ fixL cr 4) w' ∧ Below (w.heap.size + 1) (v12.alloc (.cells #[.string ⟨core.toArray⟩] 9)) w') := Lib.hid (page_put (w.heap.size + 1) (w.heap.size + 1) cr 4 _ _ HD9.out (by rw [HCL.out]; omega) (by simp; omega) HCT.out (by omega) (by omega) (by have := HCT.out; omega))
  go_wp2_with fail
  refine HCR.out.mono ?_
  rintro e v13 ⟨rfl, rfl⟩
  go_wp2_with fail
  refine HP9.out.mono ?_
  rintro e v14 ⟨rfl, hbd, hb⟩
  have HY9 := Lib.hid (bd_all (w.heap.size + 1) (w.heap.size + 1) _ _ hbd (Nat.le_trans (by simp; omega) hb.size))
  have HBWA := Lib.hid (HBW9.out.trans (hb.mono (by omega)))
  have hszA : w.heap.size + 1 ≤ v14.heap.size := Nat.le_trans (by simp; omega) hb.size
  clear hbd hb HP9 HBW9 HBW8 HCR
  go_wp2_with fail
  refine HY9.out.mono ?_
  rintro e v15 ⟨rfl, _, hb⟩
  have HBWE := Lib.hid (HBWA.out.trans (hb.mono (by omega)))
  clear hb HY9 HBWA
  go_wp2
  go_ret2
  exact ⟨by rw [HSE.out]; rfl, HBWE.out⟩
end Go.Proofs.YtpoiopjggmhnjaaDoor
