/- arboretumlaw5.alive is true. -/
import Derived.Test.YtpoiopjggmhnjaaDoorMetaC
namespace Go.Proofs.YtpoiopjggmhnjaaDoor
open Go.RowKit Go.Conc

theorem page0_shut : unfixN page0 252 4 ≠ crcS (page0.extract 0 252) := of_decide_eq_false (by kernel_rfl)
theorem fillx_shut : unfixN (fill 120 0) 252 4 ≠ crcS ((fill 120 0).extract 0 252) := of_decide_eq_false (by kernel_rfl)
theorem fillx_size : (fill 120 0).size = 256 := by
  show (fillL 120 0).toArray.size = 256
  rw [List.size_toArray, fillL_length]
theorem pageIs_shut {at' : Nat} {b : ByteArray} (hs : b.size = 256) (hc : unfixN b 252 4 ≠ crcS (b.extract 0 252)) : PageIs at' b none :=
  ⟨6, by omega, fun w => page_open_sum at' b w hs hc⟩
def m4 : Mt := ⟨4, 2, 0, 0⟩
def m5 : Mt := ⟨5, 3, 0, 0⟩
theorem Mt.ok_of {m : Mt} (h1 : m.txn < 2 ^ 48) (h2 : m.root < 2 ^ 48) (h3 : m.free < 2 ^ 48) (h4 : m.pages < 2 ^ 48) : m.ok := fun k hk => by
  match k, hk with
  | 0, _ => exact h1
  | 1, _ => exact h2
  | 2, _ => exact h3
  | 3, _ => exact h4
def two {α : Type} (a b : α) (k : Nat) : α := if k = 0 then a else b

set_option maxHeartbeats 2000000 in
set_option maxRecDepth 100000 in
theorem malive_true (w : World) : Calls Tryd.prog 6 #[] w fun e w' => e = .returned (.bool true) ∧ Below w.heap.size w w' := by
  have HN := Lib.hid (dv_new 2 w (by omega) (by omega))
  have HPL := Lib.hid (fun w => meta_place 5 w (by omega))
  have hk4 : Hid m4.ok := Lib.hid (Mt.ok_of (by simp [m4]) (by simp [m4]) (by simp [m4]) (by simp [m4]))
  have hk5 : Hid m5.ok := Lib.hid (Mt.ok_of (by simp [m5]) (by simp [m5]) (by simp [m5]) (by simp [m5]))
  go_enter Tryd.func6, Tryd.ntmps6
  go_wp2_with fail
  refine HN.out.mono ?_
  rintro e w1 ⟨rfl, hD1, hb1⟩
  have HG : Hid (Calls Tryd.prog 15 #[.pointer (some ⟨w.heap.size, 0, none⟩), .int .i64 2] w1 fun e w' => e = .returned (.int .i64 0) ∧ ∃ F', Dv w.heap.size w.heap.size 2 true false 0 [page0, page0] [page0, page0] [] F' w' ∧ Step (fun k => k = w.heap.size) F' w1 w') := Lib.hid (dv_grow 2 hD1 (by simp) (by omega) (by omega))
  have HB1 := Lib.hid (hD1.bsz)
  have HB := Lib.hid hb1
  clear hD1 hb1 HN
  go_wp2_with fail
  refine HG.out.mono ?_
  rintro e w2 ⟨rfl, F2, hD2, hS2⟩
  have HW : Hid (Calls Tryd.prog 19 #[.pointer (some ⟨w.heap.size, 0, none⟩), .agg #[.int .i64 4, .int .i64 2, .int .i64 0, .int .i64 0]] w2 fun e w' => e = .returned (.int .i64 0) ∧ ∃ F', Dv w.heap.size w.heap.size 2 true false 0 [page0, page0] [metaP m4, page0] [(((0 : Nat) : Int), metaP m4)] F' w' ∧ Step F2 F' w2 w') := Lib.hid (meta_write m4 hk4.out hD2 (by simp) (by simp) (by omega))
  have HS2 := Lib.hid hS2
  clear hD2 hS2 HG
  go_wp2_with fail
  refine HW.out.mono ?_
  rintro e w3 ⟨rfl, F3, hD3, hS3⟩
  have HW : Hid (Calls Tryd.prog 19 #[.pointer (some ⟨w.heap.size, 0, none⟩), .agg #[.int .i64 5, .int .i64 3, .int .i64 0, .int .i64 0]] w3 fun e w' => e = .returned (.int .i64 0) ∧ ∃ F', Dv w.heap.size w.heap.size 2 true false 0 [page0, page0] [metaP m4, metaP m5] [(((0 : Nat) : Int), metaP m4), (((1 : Nat) : Int), metaP m5)] F' w' ∧ Step F3 F' w3 w') := Lib.hid (meta_write m5 hk5.out hD3 (by simp) (by simp) (by omega))
  have HS3 := Lib.hid (HS2.out.trans hS3)
  clear hD3 hS3 HS2
  go_wp2_with fail
  refine HW.out.mono ?_
  rintro e w4 ⟨rfl, F4, hD4, hS4⟩
  have HC : Hid (Calls Tryd.prog 20 #[.pointer (some ⟨w.heap.size, 0, none⟩)] w4 fun e w' => e = .returned (.tuple #[.agg #[.int .i64 5, .int .i64 3, .int .i64 0, .int .i64 0], .int .i64 0]) ∧ Below w4.heap.size w4 w') := Lib.hid (meta_choose (two (some m4) (some m5)) hD4 (by simp) (fun k hk => by
    match k, hk with
    | 0, _ => exact ⟨hk4.out, rfl, rfl⟩
    | 1, _ => exact ⟨hk5.out, rfl, rfl⟩))
  have HS4 := Lib.hid (HS3.out.trans hS4)
  have HD4 := Lib.hid hD4
  clear hD4 hS4 HS3 HW
  go_wp2_with fail
  refine HC.out.mono ?_
  rintro e w5 ⟨rfl, hb5⟩
  have HB5 := Lib.hid (fun a => hb5.alloc hb5.size a)
  have HZ5 : Hid (w4.heap.size ≤ w5.heap.size) := Lib.hid hb5.size
  clear hb5 HC
  have HF1 : Hid (∀ w, Calls Tryd.prog 25 #[.int .u8 120, .int .i64 0] w fun e w' => e = .returned (.string (fill 120 0)) ∧ Below w.heap.size w w') := Lib.hid (fun w => filled_str 120 0 (by omega) w)
  go_wp2_with fail
  refine (HF1.out _).mono ?_
  rintro e w6 ⟨rfl, hb6⟩
  have HA : Hid (∀ k, k < 4 → w6.cell? ⟨w5.heap.size, k, none⟩ = some (.int .i64 (HL.el m5.l k : Nat))) := Lib.hid (fun k hk => (hb6.cell (p := ⟨w5.heap.size, k, none⟩) (by simp)).trans ((MtB.fresh w5 m5 k hk).1))
  have hF6 : Fr (fun _ => False) w4 w6 := Fr.trans (Fr.of_all (S := fun _ => False) (HB5.out _)) (Fr.of_all (S := fun _ => False) hb6) (fun _ h _ => h)
  have hD6 := HD4.out.keep hF6 (fun _ _ h => h)
  have HS6 : Hid (Step (fun k => k = w.heap.size) F4 w1 w6) := Lib.hid (HS4.out.trans ⟨hF6.mono (fun _ _ h => h.elim), fun k h => .inl h⟩)
  have HLT : Hid (∀ k, F4 k → k < w5.heap.size) := Lib.hid (fun k hk => by
    have h1 := HD4.out.lt k hk
    have h2 := (HB5.out (.cells #[.int .i64 5, .int .i64 3, .int .i64 0, .int .i64 0] 23)).size
    have h3 := HZ5.out
    omega)
  have HW : Hid (Calls Tryd.prog 17 #[.pointer (some ⟨w.heap.size, 0, none⟩), .int .i64 1, .string (fill 120 0)] w6 (DvWrote w.heap.size w.heap.size 2 false false 0 [page0, page0] [metaP m4, metaP m5] [(((0 : Nat) : Int), metaP m4), (((1 : Nat) : Int), metaP m5)] F4 1 (fill 120 0) w6)) := Lib.hid (dv_write 1 (fill 120 0) hD6 (by simp) fillx_size (by simp) (by omega))
  have hz6 : w5.heap.size < w6.heap.size := by have := hb6.size; simp at this; omega
  have HZ6 := Lib.hid hz6
  clear hD6 hb6 HS4 HD4 HF1 hF6 HB5 hz6 HZ5
  go_wp2_with fail
  refine HW.out.mono ?_
  rintro e w7 ⟨he, F7, hD7, hS7⟩
  obtain rfl : e = .returned (.int .i64 0) := he
  have HC : Hid (Calls Tryd.prog 20 #[.pointer (some ⟨w.heap.size, 0, none⟩)] w7 fun e w' => e = .returned (.tuple #[.agg #[.int .i64 4, .int .i64 2, .int .i64 0, .int .i64 0], .int .i64 0]) ∧ Below w7.heap.size w7 w') := Lib.hid (meta_choose (two (some m4) none) hD7 (by simp) (fun k hk => by
    match k, hk with
    | 0, _ => exact ⟨hk4.out, rfl, rfl⟩
    | 1, _ => exact pageIs_shut fillx_size fillx_shut))
  have HA7 : Hid (∀ k, k < 4 → w7.cell? ⟨w5.heap.size, k, none⟩ = some (.int .i64 (HL.el m5.l k : Nat))) := Lib.hid (fun k hk => (hS7.1.cell (p := ⟨w5.heap.size, k, none⟩) HZ6.out (fun h => Nat.lt_irrefl _ (HLT.out _ h))).trans (HA.out k hk))
  have HZ7 : Hid (w5.heap.size < w7.heap.size) := Lib.hid (Nat.lt_of_lt_of_le HZ6.out hS7.1.size)
  have HS7 := Lib.hid (HS6.out.trans hS7)
  clear hD7 hS7 HW HS6 HA HZ6 HLT
  go_wp2_with fail
  refine HC.out.mono ?_
  rintro e w8 ⟨rfl, hb8⟩
  have HA8 : Hid (∀ k, k < 4 → w8.cell? ⟨w5.heap.size, k, none⟩ = some (.int .i64 (HL.el m5.l k : Nat))) := Lib.hid (fun k hk => (hb8.cell (p := ⟨w5.heap.size, k, none⟩) HZ7.out).trans (HA7.out k hk))
  have HBE : Hid (∀ a, Below w.heap.size w (w8.alloc a)) := Lib.hid (fun a => by
    have hX : Below w.heap.size w w8 := (HB.out.trans (HS7.out.1.below HB1.out (fun i hi => by have : i = w.heap.size := hi; omega))).trans (hb8.mono (Nat.le_trans HB1.out HS7.out.1.size))
    exact hX.alloc hX.size _)
  have a0 : w8.cell? ⟨w5.heap.size, 0, none⟩ = some (.int .i64 5) := HA8.out 0 (by omega)
  have a1 : w8.cell? ⟨w5.heap.size, 1, none⟩ = some (.int .i64 3) := HA8.out 1 (by omega)
  have hz8 : w5.heap.size < w8.heap.size := Nat.lt_of_lt_of_le HZ7.out hb8.size
  clear hb8 HC HA7 HS7 HA8 HZ7
  go_wp2_with fail
  refine (HPL.out _).mono ?_
  rintro e w9 ⟨rfl, rfl⟩
  go_wp2
  go_ret
  exact ⟨rfl, HBE.out _⟩
end Go.Proofs.YtpoiopjggmhnjaaDoor
