/- free's Free: the calls of a nil one. -/
import Derived.Test.YtedcpckocedcoaaFr
namespace Go.Proofs.Ytedcpckocedcoaa
open Go.RowKit

set_option maxHeartbeats 400000 in
set_option maxRecDepth 100000 in
theorem fnil_give (t : Int) (p : Option Addr) (n c : Nat) (w : World) :
    Calls Try.prog 9 #[.pointer none, .int .i64 t, .slice p n c] w fun e w' => e = .returned (.tuple #[]) ∧ w' = w := by
  go_enter Try.func9, Try.ntmps9
  go_wp2
  first
    | (go_ret; exact ⟨rfl, rfl⟩)
    | (go_ret2; exact ⟨rfl, rfl⟩)
    | (go_end0; exact ⟨rfl, rfl⟩)
    | exact bodyPost_ret (v := .tuple #[]) (by simp [results, Try.results9, go_sem]) rfl ⟨rfl, rfl⟩

set_option maxHeartbeats 400000 in
set_option maxRecDepth 100000 in
theorem fnil_back (p : Option Addr) (n c : Nat) (w : World) :
    Calls Try.prog 15 #[.pointer none, .slice p n c] w fun e w' => e = .returned (.tuple #[]) ∧ w' = w := by
  go_enter Try.func15, Try.ntmps15
  go_wp2
  first
    | (go_ret; exact ⟨rfl, rfl⟩)
    | (go_ret2; exact ⟨rfl, rfl⟩)
    | (go_end0; exact ⟨rfl, rfl⟩)
    | exact bodyPost_ret (v := .tuple #[]) (by simp [results, Try.results15, go_sem]) rfl ⟨rfl, rfl⟩

set_option maxHeartbeats 400000 in
set_option maxRecDepth 100000 in
theorem fnil_pin (t : Int) (w : World) :
    Calls Try.prog 8 #[.pointer none, .int .i64 t] w fun e w' => e = .returned (.tuple #[]) ∧ w' = w := by
  go_enter Try.func8, Try.ntmps8
  go_wp2
  first
    | (go_ret; exact ⟨rfl, rfl⟩)
    | (go_ret2; exact ⟨rfl, rfl⟩)
    | (go_end0; exact ⟨rfl, rfl⟩)
    | exact bodyPost_ret (v := .tuple #[]) (by simp [results, Try.results8, go_sem]) rfl ⟨rfl, rfl⟩

set_option maxHeartbeats 400000 in
set_option maxRecDepth 100000 in
theorem fnil_take  (w : World) :
    Calls Try.prog 12 #[.pointer none] w fun e w' => e = .returned (.tuple #[.int .i64 0, .bool false]) ∧ w' = w := by
  go_enter Try.func12, Try.ntmps12
  go_wp2
  first
    | (go_ret; exact ⟨rfl, rfl⟩)
    | (go_ret2; exact ⟨rfl, rfl⟩)
    | (go_end0; exact ⟨rfl, rfl⟩)
    | exact bodyPost_ret (v := .tuple #[.int .i64 0, .bool false]) (by simp [results, Try.results12, go_sem]) rfl ⟨rfl, rfl⟩

set_option maxHeartbeats 400000 in
set_option maxRecDepth 100000 in
theorem fnil_unpin (t : Int) (w : World) :
    Calls Try.prog 14 #[.pointer none, .int .i64 t] w fun e w' => e = .returned (.bool false) ∧ w' = w := by
  go_enter Try.func14, Try.ntmps14
  go_wp2
  first
    | (go_ret; exact ⟨rfl, rfl⟩)
    | (go_ret2; exact ⟨rfl, rfl⟩)
    | (go_end0; exact ⟨rfl, rfl⟩)
    | exact bodyPost_ret (v := .bool false) (by simp [results, Try.results14, go_sem]) rfl ⟨rfl, rfl⟩

set_option maxHeartbeats 400000 in
set_option maxRecDepth 100000 in
theorem fnil_release  (w : World) :
    Calls Try.prog 10 #[.pointer none] w fun e w' => e = .returned (.int .i64 0) ∧ Below w.heap.size w w' := by
  go_enter Try.func10, Try.ntmps10
  go_wp2
  first
    | (go_ret; exact ⟨rfl, (Below.refl _ w).alloc (Nat.le_refl _) _⟩)
    | (go_ret2; exact ⟨rfl, (Below.refl _ w).alloc (Nat.le_refl _) _⟩)
    | (go_end0; exact ⟨rfl, (Below.refl _ w).alloc (Nat.le_refl _) _⟩)
    | exact bodyPost_ret (v := .int .i64 0) (by simp [results, Try.results10, go_sem]) rfl ⟨rfl, (Below.refl _ w).alloc (Nat.le_refl _) _⟩

set_option maxHeartbeats 400000 in
set_option maxRecDepth 100000 in
theorem fnil_len  (w : World) :
    Calls Try.prog 11 #[.pointer none] w fun e w' => e = .returned (.int .i64 0) ∧ w' = w := by
  go_enter Try.func11, Try.ntmps11
  go_wp2
  first
    | (go_ret; exact ⟨rfl, rfl⟩)
    | (go_ret2; exact ⟨rfl, rfl⟩)
    | (go_end0; exact ⟨rfl, rfl⟩)
    | exact bodyPost_ret (v := .int .i64 0) (by simp [results, Try.results11, go_sem]) rfl ⟨rfl, rfl⟩

set_option maxHeartbeats 400000 in
set_option maxRecDepth 100000 in
theorem fnil_waiting  (w : World) :
    Calls Try.prog 13 #[.pointer none] w fun e w' => e = .returned (.int .i64 0) ∧ w' = w := by
  go_enter Try.func13, Try.ntmps13
  go_wp2
  first
    | (go_ret; exact ⟨rfl, rfl⟩)
    | (go_ret2; exact ⟨rfl, rfl⟩)
    | (go_end0; exact ⟨rfl, rfl⟩)
    | exact bodyPost_ret (v := .int .i64 0) (by simp [results, Try.results13, go_sem]) rfl ⟨rfl, rfl⟩

set_option maxHeartbeats 400000 in
set_option maxRecDepth 100000 in
theorem fnil_list  (w : World) :
    Calls Try.prog 16 #[.pointer none] w fun e w' => e = .returned (.slice none 0 0) ∧ w' = w := by
  go_enter Try.func16, Try.ntmps16
  go_wp2
  first
    | (go_ret; exact ⟨rfl, rfl⟩)
    | (go_ret2; exact ⟨rfl, rfl⟩)
    | (go_end0; exact ⟨rfl, rfl⟩)
    | exact bodyPost_ret (v := .slice none 0 0) (by simp [results, Try.results16, go_sem]) rfl ⟨rfl, rfl⟩

set_option maxHeartbeats 400000 in
set_option maxRecDepth 100000 in
theorem fnil_all  (w : World) :
    Calls Try.prog 17 #[.pointer none] w fun e w' => e = .returned (.slice none 0 0) ∧ w' = w := by
  go_enter Try.func17, Try.ntmps17
  go_wp2
  first
    | (go_ret; exact ⟨rfl, rfl⟩)
    | (go_ret2; exact ⟨rfl, rfl⟩)
    | (go_end0; exact ⟨rfl, rfl⟩)
    | exact bodyPost_ret (v := .slice none 0 0) (by simp [results, Try.results17, go_sem]) rfl ⟨rfl, rfl⟩

end Go.Proofs.Ytedcpckocedcoaa
