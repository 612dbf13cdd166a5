/- dev: the contracts of its small functions: New, off, op, On, Len, Fuse, Restore, Unsynced, Read. -/
import Derived.Test.YtpoiopjggmhnjaaDoorPut
namespace Go.Proofs.YtpoiopjggmhnjaaDoor
open Go.RowKit Go.Conc

set_option maxRecDepth 100000 in
theorem dev_new (m : Int) (w : World) (h1 : 1 ≤ m) (h2 : m ≤ 3000) :
    Calls Tryd.prog 13 #[.int .i64 m] w fun e w' => e = .returned (.tuple #[.pointer (some ⟨w.heap.size, 0, none⟩), .int .i64 0]) ∧ w' = w.alloc (.cells #[.int .i64 m, .bool true, .bool false, .int .i64 0, .slice none 0 0, .slice none 0 0, .chan none] 64) := by
  go_enter Tryd.func13, Tryd.ntmps13
  go_wp2
  go_ret2
  exact ⟨rfl, rfl⟩

set_option maxRecDepth 100000 in
theorem dev_new_bad (m : Int) (w : World) (h : m < 1 ∨ 3000 < m) :
    Calls Tryd.prog 13 #[.int .i64 m] w fun e w' => e = .returned (.tuple #[.pointer none, .int .i64 1]) ∧ w' = w := by
  rcases Int.lt_or_le m 1 with h1 | h1
  · clear h
    go_enter Tryd.func13, Tryd.ntmps13
    go_wp2
    go_ret2
    exact ⟨rfl, rfl⟩
  · have h2 : 3000 < m := by omega
    clear h
    go_enter Tryd.func13, Tryd.ntmps13
    go_wp2
    go_ret2
    exact ⟨rfl, rfl⟩

set_option maxRecDepth 100000 in
theorem dev_off (db : Nat) (on : Bool) (w : World) (h : w.cell? ⟨db, 1, none⟩ = some (.bool on)) :
    Calls Tryd.prog 34 #[.pointer (some ⟨db, 0, none⟩)] w fun e w' => e = .returned (.bool (!on)) ∧ w' = w := by
  go_enter Tryd.func34, Tryd.ntmps34
  go_wp2
  go_ret
  exact ⟨rfl, rfl⟩

set_option maxRecDepth 100000 in
theorem dev_off_nil (w : World) :
    Calls Tryd.prog 34 #[.pointer none] w fun e w' => e = .returned (.bool true) ∧ w' = w := by
  go_enter Tryd.func34, Tryd.ntmps34
  go_wp2
  go_ret
  exact ⟨rfl, rfl⟩

set_option maxRecDepth 100000 in
theorem dev_op_plain (db : Nat) (w : World) (h : w.cell? ⟨db, 2, none⟩ = some (.bool false)) :
    Calls Tryd.prog 35 #[.pointer (some ⟨db, 0, none⟩)] w fun e w' => e = .returned (.bool false) ∧ w' = w := by
  go_enter Tryd.func35, Tryd.ntmps35
  go_wp2
  go_ret
  exact ⟨rfl, rfl⟩

set_option maxRecDepth 100000 in
theorem dev_op_left (db : Nat) (n : Int) (w : World) (h : w.cell? ⟨db, 2, none⟩ = some (.bool true)) (h3 : w.cell? ⟨db, 3, none⟩ = some (.int .i64 n)) (hf : w.frozen? ⟨db, 3, none⟩ = false) (h0 : 0 < n) (hn : n ≤ 1000000) :
    Calls Tryd.prog 35 #[.pointer (some ⟨db, 0, none⟩)] w fun e w' => e = .returned (.bool false) ∧ w' = w.setCell ⟨db, 3, none⟩ (.int .i64 (n - 1)) := by
  have e1 : IntKind.i64.wrap (n - 1) = n - 1 := IntWalk.i64_in _ ⟨by omega, by omega⟩
  go_enter Tryd.func35, Tryd.ntmps35
  go_wp2
  go_ret
  exact ⟨rfl, rfl⟩



set_option maxRecDepth 100000 in
theorem dev_restore (db : Nat) (m : Int) (on : Bool) (w : World) (h0 : w.cell? ⟨db, 0, none⟩ = some (.int .i64 m)) (h : w.cell? ⟨db, 1, none⟩ = some (.bool on)) (hf : w.frozen? ⟨db, 1, none⟩ = false) (hm : 0 < m) :
    Calls Tryd.prog 24 #[.pointer (some ⟨db, 0, none⟩)] w fun e w' => e = .returned (.tuple #[]) ∧ w' = w.setCell ⟨db, 1, none⟩ (.bool true) := by
  go_enter Tryd.func24, Tryd.ntmps24
  go_wp2
  go_end0
  exact ⟨rfl, rfl⟩

set_option maxHeartbeats 1000000 in
set_option maxRecDepth 100000 in
theorem dev_op_fails (db : Nat) (n : Int) (on : Bool) (w : World) (h1 : w.cell? ⟨db, 1, none⟩ = some (.bool on)) (h : w.cell? ⟨db, 2, none⟩ = some (.bool true)) (h3 : w.cell? ⟨db, 3, none⟩ = some (.int .i64 n)) (hf1 : w.frozen? ⟨db, 1, none⟩ = false) (hf2 : w.frozen? ⟨db, 2, none⟩ = false) (h0 : n ≤ 0) :
    Calls Tryd.prog 35 #[.pointer (some ⟨db, 0, none⟩)] w fun e w' => e = .returned (.bool true) ∧ w' = (w.setCell ⟨db, 1, none⟩ (.bool false)).setCell ⟨db, 2, none⟩ (.bool false) := by
  go_enter Tryd.func35, Tryd.ntmps35
  go_wp2
  go_ret
  exact ⟨rfl, rfl⟩



set_option maxRecDepth 100000 in
theorem dev_read (db g o : Nat) (n c k : Nat) (s : ByteArray) (w : World) (h1 : w.cell? ⟨db, 1, none⟩ = some (.bool true)) (h5 : w.cell? ⟨db, 5, none⟩ = some (.slice (some ⟨g, o, none⟩) n c)) (hk : k < n) (hs : w.cell? ⟨g, o + k, none⟩ = some (.string s)) :
    Calls Tryd.prog 40 #[.pointer (some ⟨db, 0, none⟩), .int .i64 k] w fun e w' => e = .returned (.tuple #[.string s, .int .i64 0]) ∧ w' = w := by
  have HO := Lib.hid (dev_off db true w h1)
  go_enter Tryd.func40, Tryd.ntmps40
  go_wp2_with fail
  refine HO.out.mono ?_
  rintro e w1 ⟨rfl, rfl⟩
  have hk0 : ¬ ((k : Int) < 0) := by omega
  go_wp2
  go_ret2
  exact ⟨rfl, rfl⟩

set_option maxRecDepth 100000 in
theorem dev_read_out (db : Nat) (p : Option Addr) (n c : Nat) (k : Int) (w : World) (h1 : w.cell? ⟨db, 1, none⟩ = some (.bool true)) (h5 : w.cell? ⟨db, 5, none⟩ = some (.slice p n c)) (hk : k < 0 ∨ (n : Int) ≤ k) :
    Calls Tryd.prog 40 #[.pointer (some ⟨db, 0, none⟩), .int .i64 k] w fun e w' => e = .returned (.tuple #[.string ByteArray.empty, .int .i64 3]) ∧ w' = w := by
  have HO := Lib.hid (dev_off db true w h1)
  rcases Int.lt_or_le k 0 with h0 | h0
  · clear hk
    go_enter Tryd.func40, Tryd.ntmps40
    go_wp2_with fail
    refine HO.out.mono ?_
    rintro e w1 ⟨rfl, rfl⟩
    go_wp2
    go_ret2
    exact ⟨rfl, rfl⟩
  · have hge : (n : Int) ≤ k := by omega
    clear hk
    go_enter Tryd.func40, Tryd.ntmps40
    go_wp2_with fail
    refine HO.out.mono ?_
    rintro e w1 ⟨rfl, rfl⟩
    go_wp2
    go_ret2
    exact ⟨rfl, rfl⟩
end Go.Proofs.YtpoiopjggmhnjaaDoor
