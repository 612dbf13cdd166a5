/- arboretumlaw4.PageBack: the walk. -/
import Derived.Test.YtieklgglcjdieaaDoorPBackL
namespace Go.Proofs.YtieklgglcjdieaaDoor
open Go.RowKit

theorem i64_xor1 (a : Nat) (ha : a < 2 ^ 63) : bits .xor .i64 (a : Int) 1 = ((a ^^^ 1 : Nat) : Int) := by
  have e1 : (BitVec.ofInt 64 (a : Int)).toNat = a := by rw [BitVec.toNat_ofInt]; omega
  have e2 : (BitVec.ofInt 64 1).toNat = 1 := by decide
  have key : (BitVec.ofInt 64 (a : Int) ^^^ BitVec.ofInt 64 1).toNat = a ^^^ 1 := by rw [BitVec.toNat_xor, e1, e2]
  show IntKind.i64.wrap ((BitVec.ofInt 64 (a : Int) ^^^ BitVec.ofInt 64 1).toNat : Nat) = _
  rw [key]
  exact i64_small _ (Nat.xor_lt_two_pow ha (by omega))

theorem i64_and255 (n : Int) : bits .and .i64 n 255 = n % 256 := by
  have h255 : (BitVec.ofInt 64 255).toNat = 2 ^ 8 - 1 := by decide
  have key : (BitVec.ofInt 64 n &&& BitVec.ofInt 64 255).toNat = (n % ((2 ^ 64 : Nat) : Int)).toNat % 2 ^ 8 := by
    rw [BitVec.toNat_and, BitVec.toNat_ofInt, h255, Nat.and_two_pow_sub_one_eq_mod]
  show IntKind.i64.wrap ((BitVec.ofInt 64 n &&& BitVec.ofInt 64 255).toNat : Nat) = n % 256
  rw [key, IntKind.wrap_i64]
  omega

theorem u8_xor (a z : Nat) (ha : a < 256) (hz : z < 256) : bits .xor .u8 (a : Int) (z : Int) = ((a ^^^ z : Nat) : Int) := by
  have e1 : (BitVec.ofInt 8 (a : Int)).toNat = a := by rw [BitVec.toNat_ofInt]; omega
  have e2 : (BitVec.ofInt 8 (z : Int)).toNat = z := by rw [BitVec.toNat_ofInt]; omega
  have key : (BitVec.ofInt 8 (a : Int) ^^^ BitVec.ofInt 8 (z : Int)).toNat = a ^^^ z := by rw [BitVec.toNat_xor, e1, e2]
  show IntKind.u8.wrap ((BitVec.ofInt 8 (a : Int) ^^^ BitVec.ofInt 8 (z : Int)).toNat : Nat) = _
  rw [key, IntKind.wrap_u8]
  have : a ^^^ z < 2 ^ 8 := Nat.xor_lt_two_pow ha hz
  omega

set_option maxHeartbeats 1000000 in
set_option maxRecDepth 100000 in
theorem back_long (id kind next at' by' : Int) (body : ByteArray) (w : World) (h : 300 < body.size) (hb : (body.size : Int) ≤ 9223372036854775807) : Calls Tryd.prog 4 #[.int .i64 id, .agg #[.int .i64 kind, .int .i64 next, .string body], .int .i64 at', .int .i64 by'] w fun e w' => e = .returned (.bool true) ∧ Below w.heap.size w w' := by
  go_enter Tryd.func4, Tryd.ntmps4
  go_wp2_with fail
  refine (alive_true _).mono ?_
  rintro e w3 ⟨rfl, hb3⟩
  have HB : Hid (Below w.heap.size w w3) := Lib.hid (((Below.refl _ w).alloc (Nat.le_refl _) _).trans (hb3.mono (by simp)))
  clear hb3
  go_wp2
  go_ret
  exact ⟨rfl, HB.out⟩

set_option maxHeartbeats 1000000 in
set_option maxRecDepth 100000 in
theorem back_bad (id kind next at' by' : Int) (body : ByteArray) (w : World) (hs : body.size ≤ 300) (h : ¬ sealOK id next kind) : Calls Tryd.prog 4 #[.int .i64 id, .agg #[.int .i64 kind, .int .i64 next, .string body], .int .i64 at', .int .i64 by'] w fun e w' => e = .returned (.bool true) ∧ Below w.heap.size w w' := by
  have HS := Lib.hid (fun w => page_seal_bad id next kind body w h)
  clear h
  go_enter Tryd.func4, Tryd.ntmps4
  go_wp2_with fail
  refine (HS.out _).mono ?_
  rintro e w2 ⟨rfl, hb2⟩
  have HB2 : Hid (Below w.heap.size w w2) := Lib.hid (((Below.refl _ w).alloc (Nat.le_refl _) _).trans (hb2.mono (by simp)))
  clear hb2
  go_wp2_with fail
  refine (alive_true _).mono ?_
  rintro e w3 ⟨rfl, hb3⟩
  have HB3 := Lib.hid (HB2.out.trans (hb3.mono HB2.out.size))
  clear hb3
  go_wp2
  go_ret
  exact ⟨rfl, HB3.out⟩

set_option maxHeartbeats 1000000 in
set_option maxRecDepth 100000 in
theorem back_room (id kind next at' by' : Int) (body : ByteArray) (w : World) (hs : body.size ≤ 300) (h : sealOK id next kind ∧ 240 < body.size) : Calls Tryd.prog 4 #[.int .i64 id, .agg #[.int .i64 kind, .int .i64 next, .string body], .int .i64 at', .int .i64 by'] w fun e w' => e = .returned (.bool true) ∧ Below w.heap.size w w' := by
  have HS := Lib.hid (fun w => page_seal_long id next kind body w h.1 h.2 (by omega))
  clear h
  go_enter Tryd.func4, Tryd.ntmps4
  go_wp2_with fail
  refine (HS.out _).mono ?_
  rintro e w2 ⟨rfl, hb2⟩
  have HB2 : Hid (Below w.heap.size w w2) := Lib.hid (((Below.refl _ w).alloc (Nat.le_refl _) _).trans (hb2.mono (by simp)))
  clear hb2
  go_wp2_with fail
  refine (alive_true _).mono ?_
  rintro e w3 ⟨rfl, hb3⟩
  have HB3 := Lib.hid (HB2.out.trans (hb3.mono HB2.out.size))
  clear hb3
  go_wp2
  go_ret
  exact ⟨rfl, HB3.out⟩

/-- What the calls on a sealed page come to. -/
structure BackI (id kind next : Int) (body : ByteArray) (k y : Nat) (S : ByteArray) : Prop where
  sz : S.size = 256
  s : ∀ w, Calls Tryd.prog 7 #[.int .i64 id, .agg #[.int .i64 kind, .int .i64 next, .string body]] w fun e w' => e = .returned (.tuple #[.string S, .int .i64 0]) ∧ Below w.heap.size w w'
  o1 : ∀ w, Calls Tryd.prog 11 #[.int .i64 id, .string S] w fun e w' => e = .returned (.tuple #[pv kind next body, .int .i64 0]) ∧ Below w.heap.size w w'
  o2 : ∀ w, Calls Tryd.prog 11 #[.int .i64 (bits .xor .i64 id 1), .string S] w fun e w' => e = .returned (.tuple #[pv 0 0 ByteArray.empty, .int .i64 4]) ∧ Below w.heap.size w w'
  o3 : y ≠ 0 → ∀ w, Calls Tryd.prog 11 #[.int .i64 id, .string (flipS S k y)] w fun e w' => e = .returned (.tuple #[pv 0 0 ByteArray.empty, .int .i64 6]) ∧ Below w.heap.size w w'
  o4 : ∀ w, Calls Tryd.prog 11 #[.int .i64 id, .string (S.extract 0 255)] w fun e w' => e = .returned (.tuple #[pv 0 0 ByteArray.empty, .int .i64 5]) ∧ Below w.heap.size w w'

theorem back_i (id kind next : Int) (body : ByteArray) (k y : Nat) (h : sealOK id next kind) (hb : body.size ≤ 240) (hk : k < 256) (hy : y < 256) : ∃ S, BackI id kind next body k y S := by
  obtain ⟨h0, h1, h2, h3, h4, h5⟩ := h
  obtain ⟨a, rfl⟩ := Int.eq_ofNat_of_zero_le h0
  obtain ⟨b, rfl⟩ := Int.eq_ofNat_of_zero_le h2
  obtain ⟨c, rfl⟩ := Int.eq_ofNat_of_zero_le (show 0 ≤ kind by omega)
  have hz := sealS_size a b c body hb
  refine ⟨sealS a b c body, hz, fun w => page_seal a b c body w (by omega) (by omega) (by omega) (by omega) hb, fun w => open_seal a b c body w (by omega) (by omega) (by omega) (by omega) hb, fun w => ?_, fun hy0 w => ?_, fun w => ?_⟩
  · refine open_other a b c _ body w (by omega) (by omega) (by omega) hb ?_
    rw [i64_xor1 a (by omega)]
    intro e
    have e2 : a ^^^ 1 = a := by exact_mod_cast e
    have e3 : 1 ^^^ a = 0 ^^^ a := by rw [Nat.xor_comm, e2, Nat.zero_xor]
    exact absurd (xor_cancel e3) (by omega)
  · exact page_open_sum _ _ w (by rw [flipS_size]; exact hz) (flip_sum _ k y hz (seal_sum hb) hk hy hy0)
  · exact page_open_short _ _ w (by rw [ByteArray.size_extract, hz]; omega)

set_option maxHeartbeats 4000000 in
set_option maxRecDepth 100000 in
theorem back_ok (id kind next at' by' : Int) (body : ByteArray) (w : World) (h : sealOK id next kind) (hs : body.size ≤ 240) : Calls Tryd.prog 4 #[.int .i64 id, .agg #[.int .i64 kind, .int .i64 next, .string body], .int .i64 at', .int .i64 by'] w fun e w' => e = .returned (.bool true) ∧ Below w.heap.size w w' := by
  obtain ⟨k, hk⟩ : ∃ k : Nat, at' % 256 = k := ⟨(at' % 256).toNat, by omega⟩
  obtain ⟨y, hyy⟩ : ∃ y : Nat, by' % 256 = y := ⟨(by' % 256).toNat, by omega⟩
  have hk2 : k < 256 := by omega
  have hy2 : y < 256 := by omega
  have HK := Lib.hid hk
  have HYY := Lib.hid hyy
  clear hk hyy
  obtain ⟨S, HBI⟩ := back_i id kind next body k y h hs hk2 hy2
  have HBI' := Lib.hid HBI
  clear HBI
  have HBI := HBI'
  clear HBI'
  have hsz : ((S.size : Int) != 256) = false := by rw [HBI.out.sz]; rfl
  have hle : S.size ≤ 256 := by have := HBI.out.sz; omega
  have hge : 256 ≤ S.size := by have := HBI.out.sz; omega
  clear h
  go_enter Tryd.func4, Tryd.ntmps4
  have c0 : (w.alloc (.cells #[.int .i64 kind, .int .i64 next, .string body] 23)).cell? ⟨w.heap.size, 0, none⟩ = some (.int .i64 kind) := by go_simp
  have c1 : (w.alloc (.cells #[.int .i64 kind, .int .i64 next, .string body] 23)).cell? ⟨w.heap.size, 1, none⟩ = some (.int .i64 next) := by clear c0; go_simp
  have c2 : (w.alloc (.cells #[.int .i64 kind, .int .i64 next, .string body] 23)).cell? ⟨w.heap.size, 2, none⟩ = some (.string body) := by clear c0 c1; go_simp
  have HC := Lib.hid (And.intro c0 (And.intro c1 c2))
  clear c0 c1 c2
  go_wp2_with fail
  refine (HBI.out.s _).mono ?_
  rintro e w2 ⟨rfl, hb2⟩
  have hq := And.intro (bkeep hb2 HC.out.1) (And.intro (bkeep hb2 HC.out.2.1) (bkeep hb2 HC.out.2.2))
  have HC := Lib.hid hq
  have HB2 : Hid (Below w.heap.size w w2) := Lib.hid (((Below.refl _ w).alloc (Nat.le_refl _) _).trans (hb2.mono (by simp)))
  clear hb2 hq
  go_wp2_with fail
  refine (HBI.out.o1 _).mono ?_
  rintro e w3 ⟨rfl, hb3⟩
  have d0 := bkeep hb3 HC.out.1
  have d1 := bkeep hb3 HC.out.2.1
  have d2 := bkeep hb3 HC.out.2.2
  have hlt : w.heap.size < w3.heap.size := cell_lt d0
  have HB3 := Lib.hid (HB2.out.trans (hb3.mono HB2.out.size))
  clear hb3
  unfold pv
  go_wp2_with fail
  refine (HBI.out.o2 _).mono ?_
  rintro e w4 ⟨rfl, hb4⟩
  have HB4 : Hid (Below w.heap.size w w4) := Lib.hid ((HB3.out.alloc HB3.out.size _).trans (hb4.mono (by simp; have := HB3.out.size; omega)))
  clear hb4 d0 d1 d2
  unfold pv
  by_cases hy : y = 0
  · have hyb : (by' % 256 == 0) = true := by rw [HYY.out, hy]; rfl
    clear hy
    go_wp2_with fail
    refine (alive_true _).mono ?_
    rintro e w5 ⟨rfl, hb5⟩
    have HB5 : Hid (Below w.heap.size w w5) := Lib.hid ((HB4.out.alloc HB4.out.size _).trans (hb5.mono (by simp; have := HB4.out.size; omega)))
    clear hb5
    go_wp2
    go_ret
    exact ⟨rfl, HB5.out⟩
  · have hyb : (by' % 256 == 0) = false := by rw [HYY.out]; simp; omega
    have HY0 := Lib.hid hy
    clear hy
    have hbits : bits BinOp.and IntKind.i64 at' 255 = (k : Int) := by rw [i64_and255, HK.out]
    have hconv := run_bytes_of_string (P := Tryd.prog) (w4.alloc (.cells #[.int .i64 0, .int .i64 0, .string ByteArray.empty] 23)) 9 28 5 S Tryd.underlying9 Tryd.underlying28 Tryd.underlying5
    generalize grownCap (w4.alloc (.cells #[.int .i64 0, .int .i64 0, .string ByteArray.empty] 23)) S.size 0 5 = cap at hconv
    have hrow : ∀ j, j < 256 → (bytesRow S cap)[j]? = some (.int .u8 (byteAt S j : Nat)) := fun j hj => by
      have hjs : j < S.data.size := by have : S.data.size = S.size := rfl; omega
      rw [bytesRow_at S cap j hjs]
      have e := byteAt_get S j (by omega)
      exact congrArg (fun z => some (Value.int .u8 z)) e
    have hrs : 256 ≤ (bytesRow S cap).size := by unfold bytesRow; simp; have : S.data.size = S.size := rfl; omega
    generalize bytesRow S cap = C at *
    obtain ⟨W6, hW6⟩ : ∃ W6, (w4.alloc (.cells #[.int .i64 0, .int .i64 0, .string ByteArray.empty] 23)).drew.alloc (.cells C 5 (C.size, C.size + 1)) = W6 := ⟨_, rfl⟩
    rw [hW6, World.size_alloc] at hconv
    have hnew : W6.heap[w4.heap.size + 1]? = some (.cells C 5 (C.size, C.size + 1)) := by
      rw [← hW6]
      have e := heap_alloc_new (w4.alloc (.cells #[.int .i64 0, .int .i64 0, .string ByteArray.empty] 23)).drew (.cells C 5 (C.size, C.size + 1))
      have e2 : (w4.alloc (.cells #[.int .i64 0, .int .i64 0, .string ByteArray.empty] 23)).drew.heap.size = w4.heap.size + 1 := by simp
      rw [e2] at e
      exact e
    have HB6 : Hid (Below w.heap.size w W6) := Lib.hid (by rw [← hW6]; exact ((HB4.out.alloc HB4.out.size _).drew).alloc (by simp; have := HB4.out.size; omega) _)
    have hcell : ∀ j, j < 256 → W6.cell? ⟨w4.heap.size + 1, j, none⟩ = some (.int .u8 (byteAt S j : Nat)) := fun j hj => by rw [cell_of_row _ _ _ _ _ _ hnew]; exact hrow j hj
    have hck := hcell k hk2
    have hfk : W6.frozen? ⟨w4.heap.size + 1, k, none⟩ = false := by
      unfold World.frozen?
      rw [hnew]
      simp
      omega
    have hback : ∀ z : Nat, z = byteAt S k ^^^ y → (convert 28 9 (.slice (some ⟨w4.heap.size + 1, 0, none⟩) S.size cap)).run Tryd.prog (W6.setCell ⟨w4.heap.size + 1, k, none⟩ (.int .u8 (z : Int))) = .ok (.string (flipS S k y)) (W6.setCell ⟨w4.heap.size + 1, k, none⟩ (.int .u8 (z : Int))) := fun z hz => by
      have e := run_convert_bytes_back (P := Tryd.prog) (W6.setCell ⟨w4.heap.size + 1, k, none⟩ (.int .u8 (z : Int))) 28 9 5 ⟨w4.heap.size + 1, 0, none⟩ cap (S.data.toList.set k (UInt8.ofNat (byteAt S k ^^^ y))) Tryd.underlying28 Tryd.underlying5 Tryd.underlying9 (fun j hj => by
        have hsl : S.data.toList.length = S.size := by simp
        have hj2 : j < 256 := by rw [List.length_set, hsl] at hj; omega
        rw [add_at0]
        by_cases e : j = k
        · subst e
          rw [cell_set_same _ _ _ _ hck, List.getElem_set_self]
          have h8 : byteAt S j ^^^ y < 2 ^ 8 := Nat.xor_lt_two_pow (byteAt_lt S j) hy2
          rw [hz]
          generalize byteAt S j ^^^ y = q at *
          simp
          omega
        · rw [World.cell?_setCell_other _ _ _ _ (by intro h; injection h with _ h _; omega), hcell j hj2, List.getElem_set_ne (fun h => e h.symm)]
          have eb := byteAt_get S j (by omega)
          exact congrArg (fun z => some (Value.int .u8 z)) eb.symm)
      rw [List.length_set, show S.data.toList.length = S.size by simp] at e
      exact e
    have hback := hback _ rfl
    have HNE : Hid (w.heap.size ≤ w4.heap.size + 1) := Lib.hid (by have := HB4.out.size; omega)
    have HBS : Hid (Below w.heap.size w (W6.setCell ⟨w4.heap.size + 1, k, none⟩ (.int .u8 ((byteAt S k ^^^ y : Nat) : Int)))) := Lib.hid (HB6.out.setCell (p := ⟨w4.heap.size + 1, k, none⟩) HNE.out _)
    clear hW6 hnew hcell hrs
    have hxor : bits BinOp.xor IntKind.u8 ((byteAt S k : Nat) : Int) (by' % 256) = ((byteAt S k ^^^ y : Nat) : Int) := by rw [HYY.out]; exact u8_xor _ _ (byteAt_lt S k) hy2
    clear hrow
    have hk0 : (0 : Int) ≤ (k : Int) := by omega
    have hks : (k : Int) < (S.size : Int) := by omega
    go_wp2_with fail
    refine (HBI.out.o3 HY0.out _).mono ?_
    rintro e w7 ⟨rfl, hb7⟩
    have HB7 := Lib.hid (HBS.out.trans (hb7.mono HBS.out.size))
    clear hb7 hback hck hfk hconv
    unfold pv
    go_wp2_with fail
    refine (HBI.out.o4 _).mono ?_
    rintro e w8 ⟨rfl, hb8⟩
    have HB8 : Hid (Below w.heap.size w w8) := Lib.hid ((HB7.out.alloc HB7.out.size _).trans (hb8.mono (by simp; have := HB7.out.size; omega)))
    clear hb8
    unfold pv
    go_wp2_with fail
    refine (alive_true _).mono ?_
    rintro e w9 ⟨rfl, hb9⟩
    have HB9 : Hid (Below w.heap.size w w9) := Lib.hid ((HB8.out.alloc HB8.out.size _).trans (hb9.mono (by simp; have := HB8.out.size; omega)))
    clear hb9
    go_wp2
    go_ret
    exact ⟨rfl, HB9.out⟩

theorem pageBack_walk (id kind next at' by' : Int) (body : ByteArray) (w : World) (hb : (body.size : Int) ≤ 9223372036854775807) : Calls Tryd.prog 4 #[.int .i64 id, .agg #[.int .i64 kind, .int .i64 next, .string body], .int .i64 at', .int .i64 by'] w fun e w' => e = .returned (.bool true) ∧ Below w.heap.size w w' := by
  by_cases h1 : 300 < body.size
  · exact back_long id kind next at' by' body w h1 hb
  by_cases h2 : sealOK id next kind
  · by_cases h3 : 240 < body.size
    · exact back_room id kind next at' by' body w (by omega) ⟨h2, h3⟩
    · exact back_ok id kind next at' by' body w h2 (by omega)
  · exact back_bad id kind next at' by' body w (by omega) h2
end Go.Proofs.YtieklgglcjdieaaDoor
