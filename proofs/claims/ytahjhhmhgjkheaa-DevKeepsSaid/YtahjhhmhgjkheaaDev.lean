/- dev: the contracts of its small functions: New, off, op, On, Len, Fuse, Restore, Unsynced, Read. -/
import Derived.Test.YtahjhhmhgjkheaaPut
namespace Go.Proofs.Ytahjhhmhgjkheaa
open Go.RowKit Go.Conc

set_option maxRecDepth 100000 in
theorem dev_new (m : Int) (w : World) (h1 : 1 ≤ m) (h2 : m ≤ 3000) :
    Calls Try.prog 10 #[.int .i64 m] w fun e w' => e = .returned (.tuple #[.pointer (some ⟨w.heap.size, 0, none⟩), .int .i64 0]) ∧ w' = w.alloc (.cells #[.int .i64 m, .bool true, .bool false, .int .i64 0, .slice none 0 0, .slice none 0 0, .chan none] 47) := by
  go_enter Try.func10, Try.ntmps10
  go_wp2
  go_ret2
  exact ⟨rfl, rfl⟩

set_option maxRecDepth 100000 in
theorem dev_new_bad (m : Int) (w : World) (h : m < 1 ∨ 3000 < m) :
    Calls Try.prog 10 #[.int .i64 m] w fun e w' => e = .returned (.tuple #[.pointer none, .int .i64 1]) ∧ w' = w := by
  rcases Int.lt_or_le m 1 with h1 | h1
  · clear h
    go_enter Try.func10, Try.ntmps10
    go_wp2
    go_ret2
    exact ⟨rfl, rfl⟩
  · have h2 : 3000 < m := by omega
    clear h
    go_enter Try.func10, Try.ntmps10
    go_wp2
    go_ret2
    exact ⟨rfl, rfl⟩

set_option maxRecDepth 100000 in
theorem dev_off (db : Nat) (on : Bool) (w : World) (h : w.cell? ⟨db, 1, none⟩ = some (.bool on)) :
    Calls Try.prog 23 #[.pointer (some ⟨db, 0, none⟩)] w fun e w' => e = .returned (.bool (!on)) ∧ w' = w := by
  go_enter Try.func23, Try.ntmps23
  go_wp2
  go_ret
  exact ⟨rfl, rfl⟩

set_option maxRecDepth 100000 in
theorem dev_off_nil (w : World) :
    Calls Try.prog 23 #[.pointer none] w fun e w' => e = .returned (.bool true) ∧ w' = w := by
  go_enter Try.func23, Try.ntmps23
  go_wp2
  go_ret
  exact ⟨rfl, rfl⟩

set_option maxRecDepth 100000 in
theorem dev_op_plain (db : Nat) (w : World) (h : w.cell? ⟨db, 2, none⟩ = some (.bool false)) :
    Calls Try.prog 24 #[.pointer (some ⟨db, 0, none⟩)] w fun e w' => e = .returned (.bool false) ∧ w' = w := by
  go_enter Try.func24, Try.ntmps24
  go_wp2
  go_ret
  exact ⟨rfl, rfl⟩

set_option maxRecDepth 100000 in
theorem dev_op_left (db : Nat) (n : Int) (w : World) (h : w.cell? ⟨db, 2, none⟩ = some (.bool true)) (h3 : w.cell? ⟨db, 3, none⟩ = some (.int .i64 n)) (hf : w.frozen? ⟨db, 3, none⟩ = false) (h0 : 0 < n) (hn : n ≤ 1000000) :
    Calls Try.prog 24 #[.pointer (some ⟨db, 0, none⟩)] w fun e w' => e = .returned (.bool false) ∧ w' = w.setCell ⟨db, 3, none⟩ (.int .i64 (n - 1)) := by
  have e1 : IntKind.i64.wrap (n - 1) = n - 1 := IntWalk.i64_in _ ⟨by omega, by omega⟩
  go_enter Try.func24, Try.ntmps24
  go_wp2
  go_ret
  exact ⟨rfl, rfl⟩

set_option maxRecDepth 100000 in
theorem dev_len (db : Nat) (p : Option Addr) (n c : Nat) (w : World) (h : w.cell? ⟨db, 5, none⟩ = some (.slice p n c)) :
    Calls Try.prog 18 #[.pointer (some ⟨db, 0, none⟩)] w fun e w' => e = .returned (.int .i64 n) ∧ w' = w := by
  go_enter Try.func18, Try.ntmps18
  go_wp2
  go_ret
  exact ⟨rfl, rfl⟩

set_option maxRecDepth 100000 in
theorem dev_on (db : Nat) (on : Bool) (w : World) (h : w.cell? ⟨db, 1, none⟩ = some (.bool on)) :
    Calls Try.prog 20 #[.pointer (some ⟨db, 0, none⟩)] w fun e w' => e = .returned (.bool on) ∧ w' = w := by
  have HO := Lib.hid (dev_off db on w h)
  clear h
  go_enter Try.func20, Try.ntmps20
  go_wp2_with fail
  refine HO.out.mono ?_
  rintro e w1 ⟨rfl, rfl⟩
  go_wp2
  go_ret
  exact ⟨by simp, rfl⟩

set_option maxRecDepth 100000 in
theorem dev_restore (db : Nat) (m : Int) (on : Bool) (w : World) (h0 : w.cell? ⟨db, 0, none⟩ = some (.int .i64 m)) (h : w.cell? ⟨db, 1, none⟩ = some (.bool on)) (hf : w.frozen? ⟨db, 1, none⟩ = false) (hm : 0 < m) :
    Calls Try.prog 16 #[.pointer (some ⟨db, 0, none⟩)] w fun e w' => e = .returned (.tuple #[]) ∧ w' = w.setCell ⟨db, 1, none⟩ (.bool true) := by
  go_enter Try.func16, Try.ntmps16
  go_wp2
  go_end0
  exact ⟨rfl, rfl⟩

set_option maxHeartbeats 1000000 in
set_option maxRecDepth 100000 in
theorem dev_op_fails (db : Nat) (n : Int) (on : Bool) (w : World) (h1 : w.cell? ⟨db, 1, none⟩ = some (.bool on)) (h : w.cell? ⟨db, 2, none⟩ = some (.bool true)) (h3 : w.cell? ⟨db, 3, none⟩ = some (.int .i64 n)) (hf1 : w.frozen? ⟨db, 1, none⟩ = false) (hf2 : w.frozen? ⟨db, 2, none⟩ = false) (h0 : n ≤ 0) :
    Calls Try.prog 24 #[.pointer (some ⟨db, 0, none⟩)] w fun e w' => e = .returned (.bool true) ∧ w' = (w.setCell ⟨db, 1, none⟩ (.bool false)).setCell ⟨db, 2, none⟩ (.bool false) := by
  go_enter Try.func24, Try.ntmps24
  go_wp2
  go_ret
  exact ⟨rfl, rfl⟩

set_option maxHeartbeats 1000000 in
set_option maxRecDepth 100000 in
theorem dev_fuse (db : Nat) (n l : Int) (fu : Bool) (w : World) (h2 : w.cell? ⟨db, 2, none⟩ = some (.bool fu)) (h3 : w.cell? ⟨db, 3, none⟩ = some (.int .i64 l)) (hf2 : w.frozen? ⟨db, 2, none⟩ = false) (hf3 : w.frozen? ⟨db, 3, none⟩ = false) :
    Calls Try.prog 19 #[.pointer (some ⟨db, 0, none⟩), .int .i64 n] w fun e w' => e = .returned (.tuple #[]) ∧ w' = (w.setCell ⟨db, 2, none⟩ (.bool (decide (0 ≤ n)))).setCell ⟨db, 3, none⟩ (.int .i64 n) := by
  go_enter Try.func19, Try.ntmps19
  go_wp2
  go_end0
  exact ⟨rfl, rfl⟩

set_option maxRecDepth 100000 in
theorem dev_unsynced (db : Nat) (cv : Value) (ws : List Wr) (w : World) (h : w.cell? ⟨db, 6, none⟩ = some cv) (hc : ChanI w cv ws) :
    Calls Try.prog 21 #[.pointer (some ⟨db, 0, none⟩)] w fun e w' => e = .returned (.int .i64 ws.length) ∧ w' = w := by
  rcases hc with ⟨rfl, rfl⟩ | ⟨c, cap, s, r, rfl, hc, _, _⟩
  · have hcp : ∀ ty, (Builtin.len_ #[45] ty #[.chan none]).run Try.prog w = .ok (.int .i64 0) w := fun ty => by simp [Builtin.len_, run_underlying Try.underlying45]; rfl
    go_enter Try.func21, Try.ntmps21
    go_wp2
    go_ret
    exact ⟨rfl, rfl⟩
  · have hcp : ∀ ty, (Builtin.len_ #[45] ty #[.chan (some c)]).run Try.prog w = .ok (.int .i64 ws.length) w := fun ty => by
      have := run_len_chan (P := Try.prog) 45 ty Try.underlying45 hc
      rw [List.size_toArray, List.length_map] at this
      exact this
    have HC := Lib.hid hc
    clear hc
    go_enter Try.func21, Try.ntmps21
    go_wp2
    go_ret
    exact ⟨rfl, rfl⟩

set_option maxRecDepth 100000 in
theorem dev_read (db g o : Nat) (n c k : Nat) (s : ByteArray) (w : World) (h1 : w.cell? ⟨db, 1, none⟩ = some (.bool true)) (h5 : w.cell? ⟨db, 5, none⟩ = some (.slice (some ⟨g, o, none⟩) n c)) (hk : k < n) (hs : w.cell? ⟨g, o + k, none⟩ = some (.string s)) :
    Calls Try.prog 17 #[.pointer (some ⟨db, 0, none⟩), .int .i64 k] w fun e w' => e = .returned (.tuple #[.string s, .int .i64 0]) ∧ w' = w := by
  have HO := Lib.hid (dev_off db true w h1)
  go_enter Try.func17, Try.ntmps17
  go_wp2_with fail
  refine HO.out.mono ?_
  rintro e w1 ⟨rfl, rfl⟩
  have hk0 : ¬ ((k : Int) < 0) := by omega
  go_wp2
  go_ret2
  exact ⟨rfl, rfl⟩

set_option maxRecDepth 100000 in
theorem dev_read_out (db : Nat) (p : Option Addr) (n c : Nat) (k : Int) (w : World) (h1 : w.cell? ⟨db, 1, none⟩ = some (.bool true)) (h5 : w.cell? ⟨db, 5, none⟩ = some (.slice p n c)) (hk : k < 0 ∨ (n : Int) ≤ k) :
    Calls Try.prog 17 #[.pointer (some ⟨db, 0, none⟩), .int .i64 k] w fun e w' => e = .returned (.tuple #[.string ByteArray.empty, .int .i64 3]) ∧ w' = w := by
  have HO := Lib.hid (dev_off db true w h1)
  rcases Int.lt_or_le k 0 with h0 | h0
  · clear hk
    go_enter Try.func17, Try.ntmps17
    go_wp2_with fail
    refine HO.out.mono ?_
    rintro e w1 ⟨rfl, rfl⟩
    go_wp2
    go_ret2
    exact ⟨rfl, rfl⟩
  · have hge : (n : Int) ≤ k := by omega
    clear hk
    go_enter Try.func17, Try.ntmps17
    go_wp2_with fail
    refine HO.out.mono ?_
    rintro e w1 ⟨rfl, rfl⟩
    go_wp2
    go_ret2
    exact ⟨rfl, rfl⟩
end Go.Proofs.Ytahjhhmhgjkheaa
