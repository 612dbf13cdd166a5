/- arboretumlaw2.alive is true. -/
import Derived.Test.YtahjhhmhgjkheaaDvC
namespace Go.Proofs.Ytahjhhmhgjkheaa
open Go.RowKit Go.Conc

def tornA : ByteArray := tornS (fill 97 44) (fill 99 1) 1
theorem tornA_bytes : tornA.size = 256 ∧ tornA.data[0]? = some 99 ∧ tornA.data[1]? = some 100 ∧ tornA.data[31]? = some 99 ∧ tornA.data[32]? = some 97 ∧ tornA.data[44]? = some 98 := ⟨by kernel_rfl, by kernel_rfl, by kernel_rfl, by kernel_rfl, by kernel_rfl, by kernel_rfl⟩
theorem fill_size (b k : Nat) : (fill b k).size = 256 := by
  show (fillL b k).toArray.size = 256
  rw [List.size_toArray, fillL_length]

theorem crash_A : crashL [fill 97 44] ([] ++ [(((0 : Nat) : Int), fill 99 1)]) [1] ([] ++ [(((0 : Nat) : Int), fill 99 1)]).length = [tornA] := by kernel_rfl

theorem byte_at {S : ByteArray} {i : Nat} {c : UInt8} (h : S.data[i]? = some c) (hi : i < S.size) : S[i] = c := by
  obtain ⟨_, e⟩ := Array.getElem?_eq_some_iff.1 h
  exact e
theorem byte_is {S : ByteArray} {i : Nat} {c : UInt8} {n : Int} (h : S.data[i]? = some c) (hi : i < S.size) (hn : (c.toNat : Int) = n) : ((S[i].toNat : Int) == n) = true := by
  rw [byte_at h hi, hn]
  simp

/-- What is handed in after a variable argument list of one number. -/
theorem rd_one (w : World) (x : Int) : RdI (w.alloc (.cells #[.int .i64 x] 3)) (w.alloc (.cells #[.int .i64 x] 3)).heap.size (some ⟨w.heap.size, 0, none⟩) 1 [x] :=
  ⟨rfl, fun _ => ⟨w.heap.size, 0, rfl, by simp, fun k hk => by
    obtain rfl : k = 0 := by omega
    have e := new_cells w [.int .i64 x] 3 0 _ rfl
    rw [add_at0] at e
    exact e⟩⟩

set_option maxHeartbeats 2000000 in
set_option maxRecDepth 100000 in
theorem alive_true (w : World) : Calls Try.prog 9 #[] w fun e w' => e = .returned (.bool true) ∧ Below w.heap.size w w' := by
  have HN := Lib.hid (dv_new 3 w (by omega) (by omega))
  go_enter Try.func9, Try.ntmps9
  go_wp2_with fail
  refine HN.out.mono ?_
  rintro e w1 ⟨rfl, hD1, hb1⟩
  have HG : Hid (Calls Try.prog 11 #[.pointer (some ⟨w.heap.size, 0, none⟩), .int .i64 1] w1 fun e w' => e = .returned (.int .i64 0) ∧ ∃ F', Dv w.heap.size w.heap.size 3 true false 0 [page0] [page0] [] F' w' ∧ Step (fun k => k = w.heap.size) F' w1 w') := Lib.hid (dv_grow 1 hD1 (by simp) (by omega) (by omega))
  have HB1 := Lib.hid (hD1.bsz)
  have HB := Lib.hid hb1
  clear hD1 hb1 HN
  go_wp2_with fail
  refine HG.out.mono ?_
  rintro e w2 ⟨rfl, F2, hD2, hS2⟩
  have HD2 := Lib.hid hD2
  have HS2 := Lib.hid hS2
  clear hD2 hS2 HG
  have HF1 : Hid (∀ w, Calls Try.prog 13 #[.int .u8 97, .int .i64 300] w fun e w' => e = .returned (.string (fill 97 44)) ∧ Below w.heap.size w w') := Lib.hid (fun w => filled_str 97 300 (by omega) w)
  go_wp2_with fail
  refine (HF1.out _).mono ?_
  rintro e w3 ⟨rfl, hb3⟩
  have hD3 := HD2.out.keep (Fr.of_all (S := fun _ => False) hb3) (fun _ _ h => h)
  have HS3 : Hid (Step (fun k => k = w.heap.size) F2 w1 w3) := Lib.hid (HS2.out.trans ⟨Fr.of_all hb3, fun k h => .inl h⟩)
  have HW : Hid (Calls Try.prog 12 #[.pointer (some ⟨w.heap.size, 0, none⟩), .int .i64 0, .string (fill 97 44)] w3 (DvWrote w.heap.size w.heap.size 3 false false 0 [page0] [page0] [] F2 0 (fill 97 44) w3)) := Lib.hid (dv_write 0 (fill 97 44) hD3 (by simp) (fill_size _ _) (by simp) (by omega))
  clear hD3 hb3 HS2 HD2 HF1
  go_wp2_with fail
  refine HW.out.mono ?_
  rintro e w4 ⟨he, F4, hD4, hS4⟩
  obtain rfl : e = .returned (.int .i64 0) := he
  have HY := Lib.hid (dv_sync hD4)
  have HS4 := Lib.hid (HS3.out.trans hS4)
  clear hD4 hS4 HW HS3
  go_wp2_with fail
  refine HY.out.mono ?_
  rintro e w5 ⟨rfl, F5, hD5, hS5⟩
  have HD5 := Lib.hid hD5
  have HS5 := Lib.hid (HS4.out.trans hS5)
  clear hD5 hS5 HY HS4
  have HF1 : Hid (∀ w, Calls Try.prog 13 #[.int .u8 99, .int .i64 1] w fun e w' => e = .returned (.string (fill 99 1)) ∧ Below w.heap.size w w') := Lib.hid (fun w => filled_str 99 1 (by omega) w)
  go_wp2_with fail
  refine (HF1.out _).mono ?_
  rintro e w6 ⟨rfl, hb6⟩
  have hD6 := HD5.out.keep (Fr.of_all (S := fun _ => False) hb6) (fun _ _ h => h)
  have HS6 : Hid (Step (fun k => k = w.heap.size) F5 w1 w6) := Lib.hid (HS5.out.trans ⟨Fr.of_all hb6, fun k h => .inl h⟩)
  have HW : Hid (Calls Try.prog 12 #[.pointer (some ⟨w.heap.size, 0, none⟩), .int .i64 0, .string (fill 99 1)] w6 (DvWrote w.heap.size w.heap.size 3 false false 0 [fill 97 44] [fill 97 44] [] F5 0 (fill 99 1) w6)) := Lib.hid (dv_write 0 (fill 99 1) hD6 (by simp) (fill_size _ _) (by simp) (by omega))
  clear hD6 hb6 HS5 HD5 HF1
  go_wp2_with fail
  refine HW.out.mono ?_
  rintro e w7 ⟨he, F7, hD7, hS7⟩
  obtain rfl : e = .returned (.int .i64 0) := he
  have HS7 := Lib.hid (HS6.out.trans hS7)
  have HD7 := Lib.hid hD7
  clear hD7 hS7 HW HS6
  have HC : Hid (Calls Try.prog 15 #[.pointer (some ⟨w.heap.size, 0, none⟩), .slice (some ⟨w7.heap.size, 0, none⟩) 1 1] (w7.alloc (.cells #[.int .i64 1] 3)) fun e w' => e = .returned (.tuple #[]) ∧ ∃ F', Dv w.heap.size w.heap.size 3 false false 0 [tornA] [tornA] [] F' w' ∧ Step F7 F' (w7.alloc (.cells #[.int .i64 1] 3)) w') := Lib.hid (by
    have e := dv_crash (some ⟨w7.heap.size, 0, none⟩) 1 1 [1] (HD7.out.keep ((Fr.refl (fun _ => False) w7).alloc (.cells #[.int .i64 1] 3)) (fun _ _ h => h)) (rd_one w7 1) (fun _ a ha hF => by
      injection ha with ha
      subst ha
      have := HD7.out.lt _ hF
      exact Nat.lt_irrefl _ this) (by omega)
    rw [crash_A] at e
    exact e)
  have HS8 : Hid (Step (fun k => k = w.heap.size) F7 w1 (w7.alloc (.cells #[.int .i64 1] 3))) := Lib.hid (HS7.out.trans ⟨(Fr.refl _ w7).alloc _, fun k h => .inl h⟩)
  clear HS7 HD7
  go_wp2_with fail
  refine HC.out.mono ?_
  rintro e w8 ⟨rfl, F8, hD8, hS8⟩
  have HY := Lib.hid (dv_sync_off hD8)
  have HR := Lib.hid (dv_restore hD8 (by omega))
  have HS9 := Lib.hid (HS8.out.trans hS8)
  have HF := Lib.hid hD8.here
  clear hD8 hS8 HC HS8
  go_wp2_with fail
  refine HY.out.mono ?_
  rintro e w9 ⟨rfl, rfl⟩
  go_wp2_with fail
  refine HR.out.mono ?_
  rintro e w10 ⟨rfl, hD10, hF10⟩
  have HQ := Lib.hid (dv_read 0 hD10 (by simp))
  have HS10 := Lib.hid (HS9.out.trans (Step.sub hF10 HF.out))
  clear hD10 hF10 HR HY HS9 HF
  have HQ' : Hid (Calls Try.prog 17 #[.pointer (some ⟨w.heap.size, 0, none⟩), .int .i64 0] w10 fun e w' => e = .returned (.tuple #[.string tornA, .int .i64 0]) ∧ w' = w10) := Lib.hid HQ.out
  clear HQ
  have HBE : Hid (Below w.heap.size w w10) := Lib.hid (HB.out.trans (HS10.out.1.below HB1.out (fun i hi => by have : i = w.heap.size := hi; omega)))
  have hts := tornA_bytes
  clear HS10 HB HB1
  generalize tornA = S at *
  obtain ⟨hs, h0, h1, h31, h32, h44⟩ := hts
  have hle : S.size ≤ 256 := by omega
  have hge : 256 ≤ S.size := by omega
  have hsz : ((S.size : Int) == 256) = true := by rw [hs]; rfl
  have q0 := byte_is h0 (Nat.lt_of_lt_of_le (by decide) hge) (n := 99) rfl
  have q1 := byte_is h1 (Nat.lt_of_lt_of_le (by decide) hge) (n := 100) rfl
  have q31 := byte_is h31 (Nat.lt_of_lt_of_le (by decide) hge) (n := 99) rfl
  have q32 := byte_is h32 (Nat.lt_of_lt_of_le (by decide) hge) (n := 97) rfl
  have q44 := byte_is h44 (Nat.lt_of_lt_of_le (by decide) hge) (n := 98) rfl
  clear hs h0 h1 h31 h32 h44
  go_wp2_with fail
  refine HQ'.out.mono ?_
  rintro e w11 ⟨rfl, rfl⟩
  go_wp2
  go_ret
  exact ⟨rfl, HBE.out⟩
end Go.Proofs.Ytahjhhmhgjkheaa
