/- net.ends. -/
import Derived.Test.YthdpajgnigilhaaNetN
namespace Go.Proofs.Ythdpajgnigilhaa
open Go.RowKit
set_option maxRecDepth 100000 in
theorem net_ends (a b : Int) (w : World) :
    Calls Try.prog 31 #[.int .i64 a, .int .i64 b] w fun e w' => e = .returned (.agg #[.int .i64 (min a b), .int .i64 (max a b)]) ∧ Below w.heap.size w w' := by
  go_enter Try.func31, Try.ntmps31
  go_wp2
  all_goals exact bodyPost_ret (v := .agg #[.int .i64 (min a b), .int .i64 (max a b)]) (by simp [results, Try.results31, go_sem]; try omega) rfl ⟨rfl, by repeat (first | exact Below.refl _ _ | refine Below.drew ?_ | refine Below.alloc ?_ (by simp) _ | refine Below.setCell ?_ (by simp) _)⟩
end Go.Proofs.Ythdpajgnigilhaa
