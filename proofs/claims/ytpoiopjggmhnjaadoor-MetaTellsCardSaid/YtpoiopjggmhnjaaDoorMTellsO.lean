/- arboretumlaw5.MetaTells returns true, whatever its arguments. -/
import Derived.Test.YtpoiopjggmhnjaaDoorMTells
import Derived.Test.YtpoiopjggmhnjaaDoorMetaArg
namespace Go.Proofs.YtpoiopjggmhnjaaDoor
open Go.RowKit

set_option maxRecDepth 100000 in
theorem tells_long (a0 a1 a2 a3 e0 e1 e2 e3 page at' by' which : Int) (bs : ByteArray) (w : World) (hb : 3000 < bs.size) (hbs : (bs.size : Int) ≤ 9223372036854775807) :
    Calls Tryd.prog 3 #[.agg #[.int .i64 a0, .int .i64 a1, .int .i64 a2, .int .i64 a3], .agg #[.int .i64 e0, .int .i64 e1, .int .i64 e2, .int .i64 e3], .int .i64 page, .string bs, .int .i64 at', .int .i64 by', .int .i64 which] w fun e w' => e = .returned (.bool true) ∧ Below w.heap.size w w' := by
  have HA := Lib.hid (fun w => malive_true w)
  have hbI : (3000 : Int) < (bs.size : Int) := by omega
  have HB0 : Hid (∀ A B, Below w.heap.size w ((w.alloc A).alloc B)) := Lib.hid (fun A B => ((Below.refl _ w).alloc (Nat.le_refl _) A).alloc (by simp) B)
  go_enter Tryd.func3, Tryd.ntmps3
  go_wp2_with fail
  with_reducible refine (HA.out _).mono ?_
  rintro e w3 ⟨rfl, hb3⟩
  have HB := Lib.hid ((HB0.out _ _).trans (hb3.mono (HB0.out _ _).size))
  clear hb3
  go_wp2
  go_ret
  exact ⟨rfl, HB.out⟩

theorem wf_le {n : Int} (h : (Lit.int .i64 n).wf = true) : n ≤ 9223372036854775807 := by
  have h2 := of_decide_eq_true (Bool.and_eq_true_iff.1 h).2
  have e : IntKind.max .i64 = 9223372036854775807 := by decide
  rw [e] at h2
  exact h2

theorem metaTells_row (a0 a1 a2 a3 e0 e1 e2 e3 page : Int) (bs : ByteArray) (at' by' which : Int) (w : World) (hb : bs.size ≤ maxLen) (w0 : (Lit.int .i64 a0).wf = true) (w1 : (Lit.int .i64 a1).wf = true) (w2 : (Lit.int .i64 a2).wf = true) (w3 : (Lit.int .i64 a3).wf = true) (x0 : (Lit.int .i64 e0).wf = true) (x1 : (Lit.int .i64 e1).wf = true) (x2 : (Lit.int .i64 e2).wf = true) (x3 : (Lit.int .i64 e3).wf = true) :
    Calls Tryd.prog 3 #[.agg #[.int .i64 a0, .int .i64 a1, .int .i64 a2, .int .i64 a3], .agg #[.int .i64 e0, .int .i64 e1, .int .i64 e2, .int .i64 e3], .int .i64 page, .string bs, .int .i64 at', .int .i64 by', .int .i64 which] w fun e w' => e = .returned (.bool true) ∧ Below w.heap.size w w' := by
  by_cases h : 3000 < bs.size
  · exact tells_long a0 a1 a2 a3 e0 e1 e2 e3 page at' by' which bs w h (by unfold maxLen at hb; omega)
  · exact tells_main a0 a1 a2 a3 e0 e1 e2 e3 page at' by' which bs w (by omega) (wf_le w0) (wf_le w1) (wf_le w2) (wf_le w3) (wf_le x0) (wf_le x1) (wf_le x2) (wf_le x3)
end Go.Proofs.YtpoiopjggmhnjaaDoor
