/- arboretumlaw10.OverNone: the walk. -/
import Derived.Test.YtlocadmiomglaaaGreatDoorOLaw
namespace Go.Proofs.YtlocadmiomglaaaGreatDoor
open Go.RowKit Go.Maps Go.Conc

set_option maxRecDepth 100000 in
theorem over_put_none (v : ByteArray) (w : World) : Calls Tryz.prog 7 #[.pointer none, .string v] w fun e w' => e = .returned (.tuple #[.int .i64 0, .int .i64 1]) ∧ Below w.heap.size w w' := by
  go_enter Tryz.func7, Tryz.ntmps7
  go_wp2
  (try simp only [Exit.inBlock, Exit.then])
  refine bodyPost_ret (results_cells2 rfl _ _ _ ⟨w.heap.size + 1, 0, none⟩ ⟨w.heap.size + 1 + 1, 0, none⟩ (.int .i64 0) (.int .i64 1) rfl rfl (by go_simp) (by go_simp)) rfl ⟨rfl, ?_⟩
  exact (((Below.refl _ w).alloc (Nat.le_refl _) _).alloc (by simp) _).alloc (by simp; omega) _

set_option maxRecDepth 100000 in
/-- A value that has no place. -/
theorem over_put_bad (pb : Nat) (v : ByteArray) (w : World) (h : v.size = 0 ∨ 2000 < v.size) : Calls Tryz.prog 7 #[.pointer (some ⟨pb, 0, none⟩), .string v] w fun e w' => e = .returned (.tuple #[.int .i64 0, .int .i64 1]) ∧ Below w.heap.size w w' := by
  have hse := str_empty v
  by_cases h0 : v.size = 0
  · rw [decide_eq_true h0] at hse
    clear h h0
    go_enter Tryz.func7, Tryz.ntmps7
    go_wp2
    (try simp only [Exit.inBlock, Exit.then])
    refine bodyPost_ret (results_cells2 rfl _ _ _ ⟨w.heap.size + 1, 0, none⟩ ⟨w.heap.size + 1 + 1, 0, none⟩ (.int .i64 0) (.int .i64 1) rfl rfl (by go_simp) (by go_simp)) rfl ⟨rfl, ?_⟩
    exact (((Below.refl _ w).alloc (Nat.le_refl _) _).alloc (by simp) _).alloc (by simp; omega) _
  · rw [decide_eq_false h0] at hse
    have hg : (2000 : Int) < (v.size : Int) := by omega
    clear h h0
    go_enter Tryz.func7, Tryz.ntmps7
    go_wp2
    (try simp only [Exit.inBlock, Exit.then])
    refine bodyPost_ret (results_cells2 rfl _ _ _ ⟨w.heap.size + 1, 0, none⟩ ⟨w.heap.size + 1 + 1, 0, none⟩ (.int .i64 0) (.int .i64 1) rfl rfl (by go_simp) (by go_simp)) rfl ⟨rfl, ?_⟩
    exact (((Below.refl _ w).alloc (Nat.le_refl _) _).alloc (by simp) _).alloc (by simp; omega) _

set_option maxHeartbeats 1000000 in
set_option maxRecDepth 100000 in
theorem overNone_walk (v : ByteArray) (n : Int) (w : World) : Calls Tryz.prog 3 #[.string v, .int .i64 n] w fun e w' => e = .returned (.bool true) ∧ Below w.heap.size w w' := by
  have HP := Lib.hid (fun w => over_put_none v w)
  have HG := Lib.hid (fun w : World => over_get (T := fun w' => w' = w) (.pointer none) (.int .i64 n) (.int .i64 1) (.string ByteArray.empty) (.int .i64 1) ((walk_none n 1 w).mono (fun e w' h => ⟨_, h⟩)))
  have HPG := Lib.hid (fun w : World => over_pages (w := w) (.pointer none) (.int .i64 n) (.int .i64 1) (.int .i64 1) (fun u w' => u = .slice none 0 0 ∧ w' = w) ((walk_none n 1 w).mono (fun e w' h => ⟨_, _, h.1, rfl, h.2⟩)))
  have HD := Lib.hid (fun w => over_drop_none n 1 w)
  have HA := Lib.hid (fun w => oalive_true w)
  go_enter Tryz.func3, Tryz.ntmps3
  go_wp2_with fail
  refine (HP.out _).mono ?_
  rintro e w1 ⟨rfl, hb1⟩
  have HB1 := Lib.hid hb1
  clear hb1
  go_wp2_with fail
  refine (HG.out _).mono ?_
  rintro e w2 ⟨rfl, rfl⟩
  go_wp2_with fail
  refine (HPG.out _).mono ?_
  rintro e w3 ⟨u, rfl, rfl, rfl⟩
  go_wp2_with fail
  refine (HA.out _).mono ?_
  rintro e w4 ⟨rfl, hb4⟩
  have HB4 := Lib.hid (HB1.out.trans (hb4.mono HB1.out.size))
  clear hb4
  go_wp2_with fail
  refine (HD.out _).mono ?_
  rintro e w5 ⟨rfl, rfl⟩
  go_wp2
  go_ret
  exact ⟨rfl, HB4.out⟩
end Go.Proofs.YtlocadmiomglaaaGreatDoor
