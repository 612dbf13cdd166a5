/- hist: what a nil History tells. -/
import Derived.Test.YtaijjmhannhkcaaHEv
namespace Go.Proofs.Ytaijjmhannhkcaa
open Go.RowKit

set_option maxRecDepth 100000 in
theorem nil_ins (w : World) : Calls Try.prog 40 #[.slice none 0 0, .int .i64 0, .int .i64 0] w fun e w' => e = .returned (.tuple #[]) ∧ w = w' := by
  go_enter Try.func40, Try.ntmps40
  go_wp2
  refine wp_loop_rounds 1 ?_
  rw [rounds_succ]
  go_wp2
  go_end0
  exact ⟨rfl, rfl⟩

set_option maxRecDepth 100000 in
theorem nil_pdq (w : World) : Calls Try.prog 36 #[.slice none 0 0, .int .i64 0, .int .i64 0, .int .i64 0] w fun e w' => e = .returned (.tuple #[]) ∧ w = w' := by
  go_enter Try.func36, Try.ntmps36
  go_wp2
  refine wp_loop_rounds 1 ?_
  rw [rounds_succ]
  go_wp2_with fail
  refine (nil_ins _).mono ?_
  rintro e w' ⟨rfl, rfl⟩
  go_wp2
  (try simp only [Exit.inBlock, Exit.then])
  refine bodyPost_ret (results_none rfl _ _ _) rfl ?_
  exact ⟨rfl, rfl⟩

set_option maxRecDepth 100000 in
theorem len64_0 (w : World) : Calls Try.prog 50 #[.int .u64 0] w fun e w' => e = .returned (.int .i64 0) ∧ w = w' := by
  go_enter Try.func50, Try.ntmps50
  go_wp2
  go_ret
  exact ⟨by kernel_rfl, rfl⟩

set_option maxRecDepth 100000 in
theorem len_0 (w : World) : Calls Try.prog 37 #[.int .u64 0] w fun e w' => e = .returned (.int .i64 0) ∧ w = w' := by
  go_enter Try.func37, Try.ntmps37
  go_wp2_with fail
  refine (len64_0 _).mono ?_
  rintro e w' ⟨rfl, rfl⟩
  go_wp2
  go_ret
  exact ⟨rfl, rfl⟩

set_option maxRecDepth 100000 in
theorem nil_sort (w : World) : Calls Try.prog 26 #[.slice none 0 0] w fun e w' => e = .returned (.tuple #[]) ∧ w = w' := by
  go_enter Try.func26, Try.ntmps26
  go_wp2_with fail
  refine (len_0 _).mono ?_
  rintro e w' ⟨rfl, rfl⟩
  go_wp2_with fail
  refine (nil_pdq _).mono ?_
  rintro e w' ⟨rfl, rfl⟩
  go_wp2
  go_end0
  exact ⟨rfl, rfl⟩

set_option maxRecDepth 100000 in
theorem nil_compact (w : World) : Calls Try.prog 27 #[.slice none 0 0] w fun e w' => e = .returned (.slice none 0 0) ∧ w = w' := by
  go_enter Try.func27, Try.ntmps27
  go_wp2
  go_ret
  exact ⟨rfl, rfl⟩

set_option maxRecDepth 100000 in
theorem nil_index (fv : Value) (w : World) : Calls Try.prog 33 #[.slice none 0 0, fv] w fun e w' => e = .returned (.int .i64 (-1)) ∧ w = w' := by
  go_enter Try.func33, Try.ntmps33
  go_wp2
  refine wp_loop_rounds 1 ?_
  rw [rounds_succ]
  go_wp2
  go_ret
  exact ⟨rfl, rfl⟩

set_option maxRecDepth 100000 in
theorem nil_delete (fv : Value) (w : World) : Calls Try.prog 24 #[.slice none 0 0, fv] w fun e w' => e = .returned (.slice none 0 0) ∧ w = w' := by
  go_enter Try.func24, Try.ntmps24
  go_wp2_with fail
  refine (nil_index _ _).mono ?_
  rintro e w' ⟨rfl, rfl⟩
  go_wp2
  go_ret
  exact ⟨rfl, rfl⟩

set_option maxRecDepth 100000 in
theorem nil_list (w : World) : Calls Try.prog 12 #[.pointer none] w fun e w' => e = .returned (.slice none 0 0) ∧ w = w' := by
  go_enter Try.func12, Try.ntmps12
  go_wp2
  go_ret
  exact ⟨rfl, rfl⟩

set_option maxRecDepth 100000 in
theorem nil_of (k : ByteArray) (w : World) : Calls Try.prog 13 #[.pointer none, .string k] w fun e w' => e = .returned (.slice none 0 0) ∧ Below w.heap.size w w' := by
  go_enter Try.func13, Try.ntmps13
  go_wp2_with fail
  refine (nil_list _).mono ?_
  rintro e w' ⟨rfl, rfl⟩
  go_wp2_with fail
  refine (nil_delete _ _).mono ?_
  rintro e w' ⟨rfl, rfl⟩
  go_wp2
  go_ret
  exact ⟨rfl, (Below.refl _ w).alloc (Nat.le_refl _) _⟩

set_option maxRecDepth 100000 in
theorem nil_keys (w : World) : Calls Try.prog 14 #[.pointer none] w fun e w' => e = .returned (.slice none 0 0) ∧ w = w' := by
  go_enter Try.func14, Try.ntmps14
  go_wp2_with fail
  refine (nil_list _).mono ?_
  rintro e w' ⟨rfl, rfl⟩
  go_wp2
  refine wp_loop_rounds 1 ?_
  rw [rounds_succ]
  go_wp2_with fail
  refine (nil_sort _).mono ?_
  rintro e w' ⟨rfl, rfl⟩
  go_wp2_with fail
  refine (nil_compact _).mono ?_
  rintro e w' ⟨rfl, rfl⟩
  go_wp2
  go_ret
  exact ⟨rfl, rfl⟩

set_option maxRecDepth 100000 in
theorem nil_judge (w : World) : Calls Try.prog 9 #[.pointer none] w fun e w' => e = .returned (.tuple #[.bool true, .int .i64 0]) ∧ w = w' := by
  go_enter Try.func9, Try.ntmps9
  go_wp2_with fail
  refine (nil_keys _).mono ?_
  rintro e w' ⟨rfl, rfl⟩
  go_wp2
  refine wp_loop_rounds 1 ?_
  rw [rounds_succ]
  go_wp2
  go_ret2
  exact ⟨rfl, rfl⟩

set_option maxRecDepth 100000 in
theorem nil_call (c n a : Int) (o : Ev) (w : World) : Calls Try.prog 10 #[.pointer none, .int .i64 c, .int .i64 n, .int .i64 a, opV o] w fun e w' => e = .returned (.int .i64 1) ∧ Below w.heap.size w w' := by
  unfold opV
  go_enter Try.func10, Try.ntmps10
  go_wp2
  go_ret
  exact ⟨rfl, (Below.refl _ w).alloc (Nat.le_refl _) _⟩

set_option maxRecDepth 100000 in
theorem nil_return (c n a err rnum : Int) (v : ByteArray) (w : World) : Calls Try.prog 11 #[.pointer none, .int .i64 c, .int .i64 n, .int .i64 a, .agg #[.int .i64 err, .string v, .int .i64 rnum]] w fun e w' => e = .returned (.int .i64 1) ∧ Below w.heap.size w w' := by
  go_enter Try.func11, Try.ntmps11
  go_wp2
  go_ret
  exact ⟨rfl, (Below.refl _ w).alloc (Nat.le_refl _) _⟩

def smallE (o : Ev) : Bool := decide (o.key.size ≤ 3000) && (decide (o.val.size ≤ 3000) && decide (o.old.size ≤ 3000))

set_option maxRecDepth 100000 in
theorem hist_small (o : Ev) (w : World) : Calls Try.prog 8 #[opV o] w fun e w' => e = .returned (.bool (smallE o)) ∧ Below w.heap.size w w' := by
  unfold opV smallE
  by_cases h1 : (o.key.size : Int) ≤ 3000
  · have d1 : decide ((o.key.size : Int) ≤ 3000) = true := decide_eq_true h1
    have e1 : decide (o.key.size ≤ 3000) = true := decide_eq_true (by omega)
    rw [e1]
    by_cases h2 : (o.val.size : Int) ≤ 3000
    · have d2 : decide ((o.val.size : Int) ≤ 3000) = true := decide_eq_true h2
      have e2 : decide (o.val.size ≤ 3000) = true := decide_eq_true (by omega)
      rw [e2]
      by_cases h3 : (o.old.size : Int) ≤ 3000
      · have d3 : decide ((o.old.size : Int) ≤ 3000) = true := decide_eq_true h3
        have e3 : decide (o.old.size ≤ 3000) = true := decide_eq_true (by omega)
        rw [e3]
        clear h1 h2 h3 e1 e2 e3
        go_enter Try.func8, Try.ntmps8
        go_wp2
        go_ret
        exact ⟨rfl, (Below.refl _ w).alloc (Nat.le_refl _) _⟩
      · have d3 : decide ((o.old.size : Int) ≤ 3000) = false := decide_eq_false h3
        have e3 : decide (o.old.size ≤ 3000) = false := decide_eq_false (by omega)
        rw [e3]
        clear h1 h2 h3 e1 e2 e3
        go_enter Try.func8, Try.ntmps8
        go_wp2
        go_ret
        exact ⟨rfl, (Below.refl _ w).alloc (Nat.le_refl _) _⟩
    · have d2 : decide ((o.val.size : Int) ≤ 3000) = false := decide_eq_false h2
      have e2 : decide (o.val.size ≤ 3000) = false := decide_eq_false (by omega)
      rw [e2]
      clear h1 h2 e1 e2
      go_enter Try.func8, Try.ntmps8
      go_wp2
      go_ret
      exact ⟨rfl, (Below.refl _ w).alloc (Nat.le_refl _) _⟩
  · have d1 : decide ((o.key.size : Int) ≤ 3000) = false := decide_eq_false h1
    have e1 : decide (o.key.size ≤ 3000) = false := decide_eq_false (by omega)
    rw [e1]
    clear h1 e1
    go_enter Try.func8, Try.ntmps8
    go_wp2
    go_ret
    exact ⟨rfl, (Below.refl _ w).alloc (Nat.le_refl _) _⟩
end Go.Proofs.Ytaijjmhannhkcaa
