/- arboretumlaw4.PageTells: the walk of a byte that is changed and sealed anew. -/
import Derived.Test.YtieklgglcjdieaaDoorPTells
namespace Go.Proofs.YtieklgglcjdieaaDoor
open Go.RowKit

theorem take_size (S : ByteArray) (k : Nat) (x : UInt8) (h : S.size = 256) : ((S.data.toList.set k x).take 252).length = 252 := by
  rw [List.length_take, List.length_set]
  have : S.data.toList.length = S.size := by simp
  omega

set_option maxHeartbeats 4000000 in
set_option maxRecDepth 100000 in
theorem tells_own (id kind next at' by' : Int) (body b S : ByteArray) (c : Int) (w : World) (hb : body.size ≤ 3000) (hbb : b.size ≤ 3000) (hS : S.size = 256)
    (HS1 : Hid (∀ w, Calls Tryd.prog 7 #[.int .i64 id, .agg #[.int .i64 kind, .int .i64 next, .string body]] w fun e w' => e = .returned (.tuple #[.string S, .int .i64 c]) ∧ Below w.heap.size w w'))
    (HS2 : Hid (∀ w, Calls Tryd.prog 8 #[.int .i64 id, .agg #[.int .i64 kind, .int .i64 next, .string body]] w fun e w' => e = .returned (.tuple #[.string S, .int .i64 c]) ∧ Below w.heap.size w w')) : Calls Tryd.prog 3 #[.int .i64 id, .agg #[.int .i64 kind, .int .i64 next, .string body], .string b, .int .i64 at', .int .i64 by', .bool true] w fun e w' => e = .returned (.bool true) ∧ Below w.heap.size w w' := by
  obtain ⟨k, hk⟩ : ∃ k : Nat, at' % 256 = k := ⟨(at' % 256).toNat, by omega⟩
  obtain ⟨y, hyy⟩ : ∃ y : Nat, by' % 256 = y := ⟨(by' % 256).toNat, by omega⟩
  have hk2 : k < 256 := by omega
  have hy2 : y < 256 := by omega
  have HK := Lib.hid hk
  have HYY := Lib.hid hyy
  clear hk hyy
  obtain ⟨L, hL⟩ : ∃ L : List UInt8, (S.data.toList.set k (UInt8.ofNat (byteAt S k ^^^ y))).take 252 = L := ⟨_, rfl⟩
  have HLL : Hid (L.length = 252) := Lib.hid (by rw [← hL]; exact take_size S k _ hS)
  obtain ⟨Z, hZ⟩ : ∃ Z : ByteArray, (⟨L.toArray⟩ : ByteArray) = Z := ⟨_, rfl⟩
  have HZS : Hid (Z.size = 252) := Lib.hid (by rw [← hZ]; show L.toArray.size = 252; rw [List.size_toArray, HLL.out])
  have HCT := Lib.hid (crcS_lt Z)
  have HFX := Lib.hid (fun w => ref_fix (crcS Z) 4 w (by have := HCT.out; omega) (by omega) (by omega) (by have := HCT.out; omega))
  have HCR := Lib.hid (fun w => ref_crc Z w (by have := HZS.out; omega))
  have hf4 := fixS_size (crcS Z) 4
  have h252 : ¬ (9223372036854775807 < Z.size + 4) := by have := HZS.out; omega
  generalize fixS (crcS Z) 4 = F at *
  generalize crcS Z = cr at *
  obtain ⟨p, nx, bd, oc, ho1, ho2⟩ := open_both id (Z ++ F)
  have HO1 := Lib.hid ho1
  have HO2 := Lib.hid ho2
  clear ho1 ho2
  have hsz : ((S.size : Int) == 256) = true := by rw [hS]; rfl
  have hle : S.size ≤ 256 := by omega
  have hge : 256 ≤ S.size := by omega
  have h1 : ¬ (3000 : Int) < (body.size : Int) := by omega
  have h2 : ¬ (3000 : Int) < (b.size : Int) := by omega
  clear hS
  go_enter Tryd.func3, Tryd.ntmps3
  have c0 : (w.alloc (.cells #[.int .i64 kind, .int .i64 next, .string body] 23)).cell? ⟨w.heap.size, 0, none⟩ = some (.int .i64 kind) := by go_simp
  have c1 : (w.alloc (.cells #[.int .i64 kind, .int .i64 next, .string body] 23)).cell? ⟨w.heap.size, 1, none⟩ = some (.int .i64 next) := by clear c0; go_simp
  have c2 : (w.alloc (.cells #[.int .i64 kind, .int .i64 next, .string body] 23)).cell? ⟨w.heap.size, 2, none⟩ = some (.string body) := by clear c0 c1; go_simp
  go_wp2_with fail
  refine (HS1.out _).mono ?_
  rintro e w2 ⟨rfl, hb2⟩
  have d0 := bkeep hb2 c0
  have d1 := bkeep hb2 c1
  have d2 := bkeep hb2 c2
  have HB2 : Hid (Below w.heap.size w w2) := Lib.hid (((Below.refl _ w).alloc (Nat.le_refl _) _).trans (hb2.mono (by simp)))
  clear hb2 c0 c1 c2
  go_wp2_with fail
  refine (HS2.out _).mono ?_
  rintro e w3 ⟨rfl, hb3⟩
  have HB3 := Lib.hid (HB2.out.trans (hb3.mono HB2.out.size))
  clear hb3 d0 d1 d2 HB2
  have hbits : bits BinOp.and IntKind.i64 at' 255 = (k : Int) := by rw [i64_and255, HK.out]
  have hconv := run_bytes_of_string (P := Tryd.prog) w3 9 28 5 S Tryd.underlying9 Tryd.underlying28 Tryd.underlying5
  have hcap := grownCap_ge w3 S.size 0 5
  generalize grownCap w3 S.size 0 5 = cap at hconv hcap
  have hrow : ∀ j, j < 256 → (bytesRow S cap)[j]? = some (.int .u8 (byteAt S j : Nat)) := fun j hj => by
    have hjs : j < S.data.size := by have : S.data.size = S.size := rfl; omega
    rw [bytesRow_at S cap j hjs]
    have e := byteAt_get S j (by omega)
    exact congrArg (fun z => some (Value.int .u8 z)) e
  have hrs : 256 ≤ (bytesRow S cap).size := by unfold bytesRow; simp; have : S.data.size = S.size := rfl; omega
  generalize bytesRow S cap = C at *
  obtain ⟨W6, hW6⟩ : ∃ W6, w3.drew.alloc (.cells C 5 (C.size, C.size + 1)) = W6 := ⟨_, rfl⟩
  rw [hW6] at hconv
  have hnew : W6.heap[w3.heap.size]? = some (.cells C 5 (C.size, C.size + 1)) := by
    rw [← hW6]
    have e := heap_alloc_new w3.drew (.cells C 5 (C.size, C.size + 1))
    have e2 : w3.drew.heap.size = w3.heap.size := by simp
    rw [e2] at e
    exact e
  have HB6 : Hid (Below w.heap.size w W6) := Lib.hid (by rw [← hW6]; exact (HB3.out.drew).alloc (by simp; have := HB3.out.size; omega) _)
  have hcell : ∀ j, j < 256 → W6.cell? ⟨w3.heap.size, j, none⟩ = some (.int .u8 (byteAt S j : Nat)) := fun j hj => by rw [cell_of_row _ _ _ _ _ _ hnew]; exact hrow j hj
  have hck := hcell k hk2
  have hfk : W6.frozen? ⟨w3.heap.size, k, none⟩ = false := by
    unfold World.frozen?
    rw [hnew]
    simp
    omega
  have HCV : Hid (∀ w' : World, (∀ j (hj : j < L.length), w'.cell? ((⟨w3.heap.size, 0, none⟩ : Addr).add j) = some (.int .u8 (L[j].toNat : Int))) → (convert 28 9 (.slice (some ⟨w3.heap.size, 0, none⟩) 252 cap)).run Tryd.prog w' = .ok (.string Z) w') := Lib.hid (fun w' hw' => by
    have e := run_convert_bytes_back (P := Tryd.prog) w' 28 9 5 ⟨w3.heap.size, 0, none⟩ cap L Tryd.underlying28 Tryd.underlying5 Tryd.underlying9 hw'
    rw [HLL.out, hZ] at e
    exact e)
  have hcel : ∀ z : Nat, z = byteAt S k ^^^ y → ∀ j (hj : j < L.length), (W6.setCell ⟨w3.heap.size, k, none⟩ (.int .u8 (z : Int))).cell? ((⟨w3.heap.size, 0, none⟩ : Addr).add j) = some (.int .u8 (L[j].toNat : Int)) := fun z hz j hj => by
    have hsl : S.data.toList.length = S.size := by simp
    have hj2 : j < 252 := by rw [HLL.out] at hj; exact hj
    have hLj : L[j] = (S.data.toList.set k (UInt8.ofNat (byteAt S k ^^^ y)))[j]'(by rw [List.length_set, hsl]; omega) := by subst hL; exact List.getElem_take
    rw [hLj, add_at0]
    by_cases e : j = k
    · subst e
      rw [cell_set_same _ _ _ _ hck, List.getElem_set_self]
      have h8 : byteAt S j ^^^ y < 2 ^ 8 := Nat.xor_lt_two_pow (byteAt_lt S j) hy2
      rw [hz]
      generalize byteAt S j ^^^ y = q at *
      simp
      omega
    · rw [World.cell?_setCell_other _ _ _ _ (by intro h; injection h with _ h _; omega), hcell j (by omega), List.getElem_set_ne (fun h => e h.symm)]
      have eb := byteAt_get S j (by omega)
      exact congrArg (fun z => some (Value.int .u8 z)) eb.symm
  have hcelq := hcel _ rfl
  have hback := HCV.out _ hcelq
  have HCE := Lib.hid hcelq
  clear hcelq hcel
  have HNE : Hid (w.heap.size ≤ w3.heap.size) := Lib.hid HB3.out.size
  have HBS : Hid (Below w.heap.size w (W6.setCell ⟨w3.heap.size, k, none⟩ (.int .u8 ((byteAt S k ^^^ y : Nat) : Int)))) := Lib.hid (HB6.out.setCell (p := ⟨w3.heap.size, k, none⟩) HNE.out _)
  clear hW6 hnew hcell hrs hL hZ
  have hxor : bits BinOp.xor IntKind.u8 ((byteAt S k : Nat) : Int) (by' % 256) = ((byteAt S k ^^^ y : Nat) : Int) := by rw [HYY.out]; exact u8_xor _ _ (byteAt_lt S k) hy2
  clear hrow
  have hk0 : (0 : Int) ≤ (k : Int) := by omega
  have hks : (k : Int) < (S.size : Int) := by omega
  have hcp : (252 : Int) ≤ (cap : Int) := by omega
  have hcp2 : 252 ≤ cap := by omega
  generalize byteAt S k ^^^ y = q at *
  go_wp2_with fail
  refine (HCR.out _).mono ?_
  rintro e w4 ⟨rfl, rfl⟩
  go_wp2_with fail
  refine (HFX.out _).mono ?_
  rintro e w5 ⟨rfl, hb5⟩
  have hback5 := HCV.out w5 (fun j hj => bkeep hb5 (HCE.out j hj))
  have HBF := Lib.hid (HBS.out.trans (hb5.mono HBS.out.size))
  clear hb5 hback hck hfk hconv HCV HCE hxor hbits
  go_wp2_with fail
  refine (HO1.out _).mono ?_
  rintro e w7 ⟨rfl, hb7⟩
  have HB4 : Hid (Below w.heap.size w w7) := Lib.hid (HBF.out.trans (hb7.mono HBF.out.size))
  clear hb7
  have HN4 := Lib.hid (new3 w7 p nx bd)
  go_wp2_with fail
  refine (HO2.out _).mono ?_
  rintro e w8 ⟨rfl, hb8⟩
  have HB5 : Hid (Below w.heap.size w w8) := Lib.hid ((HB4.out.alloc HB4.out.size _).trans (hb8.mono (by simp; have := HB4.out.size; omega)))
  have a0 := bkeep hb8 HN4.out.1
  have a1 := bkeep hb8 HN4.out.2.1
  have a2 := bkeep hb8 HN4.out.2.2
  have HA := Lib.hid (And.intro a0 (And.intro a1 a2))
  have HN5 := Lib.hid (new3 w8 p nx bd)
  clear hb8 a0 a1 a2 HN4
  go_wp2_with fail
  refine (alive_true _).mono ?_
  rintro e w9 ⟨rfl, hb9⟩
  have x0 := bkeep hb9 (bkeep ((Below.refl _ w8).alloc (Nat.le_refl _) _) HA.out.1)
  have x1 := bkeep hb9 (bkeep ((Below.refl _ w8).alloc (Nat.le_refl _) _) HA.out.2.1)
  have x2 := bkeep hb9 (bkeep ((Below.refl _ w8).alloc (Nat.le_refl _) _) HA.out.2.2)
  have y0 := bkeep hb9 HN5.out.1
  have y1 := bkeep hb9 HN5.out.2.1
  have y2 := bkeep hb9 HN5.out.2.2
  have HB6 : Hid (Below w.heap.size w w9) := Lib.hid ((HB5.out.alloc HB5.out.size _).trans (hb9.mono (by simp; have := HB5.out.size; omega)))
  clear hb9 HA HN5
  go_wp2
  go_ret
  exact ⟨rfl, HB6.out⟩

theorem pageTells_walk (id kind next at' by' : Int) (own : Bool) (body b : ByteArray) (w : World) (hb : (body.size : Int) ≤ 9223372036854775807) (hb2 : (b.size : Int) ≤ 9223372036854775807) : Calls Tryd.prog 3 #[.int .i64 id, .agg #[.int .i64 kind, .int .i64 next, .string body], .string b, .int .i64 at', .int .i64 by', .bool own] w fun e w' => e = .returned (.bool true) ∧ Below w.heap.size w w' := by
  by_cases h1 : 3000 < body.size ∨ 3000 < b.size
  · exact tells_long id kind next at' by' own body b w h1 hb hb2
  obtain ⟨S, c, hs1, hs2⟩ := seal_both id kind next body (by omega)
  by_cases h2 : own = true ∧ S.size = 256
  · rw [h2.1]
    exact tells_own id kind next at' by' body b S c w (by omega) (by omega) h2.2 (Lib.hid hs1) (Lib.hid hs2)
  · exact tells_not id kind next at' by' own body b S c w (by omega) (by omega) h2 (Lib.hid hs1) (Lib.hid hs2)
end Go.Proofs.YtieklgglcjdieaaDoor
