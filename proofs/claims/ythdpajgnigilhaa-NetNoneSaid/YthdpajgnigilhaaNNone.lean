/- arboretumlaw27.NetNone: the walk, out of the contract of alive (which is not proved yet). -/
import Derived.Test.YthdpajgnigilhaaNetN
namespace Go.Proofs.Ythdpajgnigilhaa
open Go.RowKit

set_option maxHeartbeats 2000000 in
set_option maxRecDepth 100000 in
theorem netNone_of (HAL : Hid (∀ w : World, Calls Try.prog 8 #[] w fun e w' => e = .returned (.bool true) ∧ Below w.heap.size w w')) (k : Int) (w : World) :
    Calls Try.prog 7 #[.int .i64 k] w fun e w' => e = .returned (.bool true) ∧ Below w.heap.size w w' := by
  go_enter Try.func7, Try.ntmps7
  go_wp2_with fail
  refine (nil_due k _).mono ?_
  rintro e w1 ⟨rfl, hb⟩
  have HB1 := Lib.hid hb
  clear hb
  unfold pkv
  go_wp2_with fail
  refine (nil_pull k _).mono ?_
  rintro e w2 ⟨rfl, hb⟩
  have HB2 : Hid (Below w.heap.size w w2) := Lib.hid ((HB1.out.alloc HB1.out.size _).trans (hb.mono (by simp; have := HB1.out.size; omega)))
  clear hb
  unfold pkv
  go_wp2_with fail
  refine (nil_peek k _).mono ?_
  rintro e w3 ⟨rfl, hb⟩
  have HB3 : Hid (Below w.heap.size w w3) := Lib.hid ((HB2.out.alloc HB2.out.size _).trans (hb.mono (by simp; have := HB2.out.size; omega)))
  clear hb
  unfold pkv
  go_wp2_with fail
  refine (nil_cut 1 2 true _).mono ?_
  rintro e w4 ⟨rfl, rfl⟩
  go_wp2_with fail
  refine (HAL.out _).mono ?_
  rintro e w5 ⟨rfl, hb⟩
  have HB5 : Hid (Below w.heap.size w w5) := Lib.hid ((HB3.out.alloc HB3.out.size _).trans (hb.mono (by simp; have := HB3.out.size; omega)))
  clear hb
  go_wp2_with fail
  refine (nil_send k _ _ _ _).mono ?_
  rintro e w6 ⟨rfl, rfl⟩
  go_wp2_with fail
  refine (nil_len _).mono ?_
  rintro e w6 ⟨rfl, rfl⟩
  go_wp2_with fail
  refine (nil_clear _).mono ?_
  rintro e w6 ⟨rfl, rfl⟩
  go_wp2_with fail
  refine (nil_drop k _).mono ?_
  rintro e w7 ⟨rfl, hb⟩
  have HB7 : Hid (Below w.heap.size w w7) := Lib.hid ((HB5.out.alloc HB5.out.size _).trans (hb.mono (by simp; have := HB5.out.size; omega)))
  clear hb
  go_wp2_with fail
  refine (nil_double k _).mono ?_
  rintro e w8 ⟨rfl, rfl⟩
  go_wp2_with fail
  refine (nil_delay k 1 _).mono ?_
  rintro e w8 ⟨rfl, rfl⟩
  go_wp2
  go_ret
  exact ⟨rfl, HB7.out⟩
end Go.Proofs.Ythdpajgnigilhaa
