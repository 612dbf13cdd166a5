/- page.Seal's refusals; arboretumlaw4.alive is true. -/
import Derived.Test.YtpoiopjggmhnjaaDoorSealL
namespace Go.Proofs.YtpoiopjggmhnjaaDoor
open Go.RowKit

/-- Are the numbers such that a page can be sealed? -/
def sealOK (id next kind : Int) : Prop := 0 ≤ id ∧ id < 4294967296 ∧ 0 ≤ next ∧ next < 4294967296 ∧ 1 ≤ kind ∧ kind ≤ 255

set_option maxHeartbeats 1000000 in
set_option maxRecDepth 100000 in
theorem page_seal_bad (id next kind : Int) (body : ByteArray) (w : World) (h : ¬ sealOK id next kind) :
    Calls Tryd.prog 27 #[.int .i64 id, .agg #[.int .i64 kind, .int .i64 next, .string body]] w fun e w' => e = .returned (.tuple #[.string ByteArray.empty, .int .i64 1]) ∧ Below w.heap.size w w' := by
  unfold sealOK at h
  by_cases h1 : id < 0 ∨ 4294967295 < id
  · have HI1 := Lib.hid (fun w => in_no id 0 4294967295 w h1)
    clear h h1
    go_enter Tryd.func27, Tryd.ntmps27
    go_wp2_with fail
    refine (HI1.out _).mono ?_
    rintro e w1 ⟨rfl, rfl⟩
    go_wp2
    go_ret2
    exact ⟨rfl, (Below.refl _ _).alloc (Nat.le_refl _) _⟩
  have HI1 := Lib.hid (fun w => in_yes id 0 4294967295 w (by omega) (by omega))
  by_cases h2 : next < 0 ∨ 4294967295 < next
  · have HI2 := Lib.hid (fun w => in_no next 0 4294967295 w h2)
    clear h h1 h2
    go_enter Tryd.func27, Tryd.ntmps27
    go_wp2_with fail
    refine (HI1.out _).mono ?_
    rintro e w1 ⟨rfl, rfl⟩
    go_wp2_with fail
    refine (HI2.out _).mono ?_
    rintro e w1 ⟨rfl, rfl⟩
    go_wp2
    go_ret2
    exact ⟨rfl, (Below.refl _ _).alloc (Nat.le_refl _) _⟩
  have HI2 := Lib.hid (fun w => in_yes next 0 4294967295 w (by omega) (by omega))
  have HI3 := Lib.hid (fun w => in_no kind 1 255 w (by omega))
  clear h h1 h2
  go_enter Tryd.func27, Tryd.ntmps27
  go_wp2_with fail
  refine (HI1.out _).mono ?_
  rintro e w1 ⟨rfl, rfl⟩
  go_wp2_with fail
  refine (HI2.out _).mono ?_
  rintro e w1 ⟨rfl, rfl⟩
  go_wp2_with fail
  refine (HI3.out _).mono ?_
  rintro e w1 ⟨rfl, rfl⟩
  go_wp2
  go_ret2
  exact ⟨rfl, (Below.refl _ _).alloc (Nat.le_refl _) _⟩

set_option maxHeartbeats 1000000 in
set_option maxRecDepth 100000 in
theorem page_seal_long (id next kind : Int) (body : ByteArray) (w : World) (h : sealOK id next kind) (hb : 240 < body.size) (hb2 : body.size ≤ 1000000) :
    Calls Tryd.prog 27 #[.int .i64 id, .agg #[.int .i64 kind, .int .i64 next, .string body]] w fun e w' => e = .returned (.tuple #[.string ByteArray.empty, .int .i64 2]) ∧ Below w.heap.size w w' := by
  obtain ⟨h1, h2, h3, h4, h5, h6⟩ := h
  have HI1 := Lib.hid (fun w => in_yes id 0 4294967295 w (by omega) (by omega))
  have HI2 := Lib.hid (fun w => in_yes next 0 4294967295 w (by omega) (by omega))
  have HI3 := Lib.hid (fun w => in_yes kind 1 255 w (by omega) (by omega))
  clear h1 h2 h3 h4 h5 h6
  go_enter Tryd.func27, Tryd.ntmps27
  go_wp2_with fail
  refine (HI1.out _).mono ?_
  rintro e w1 ⟨rfl, rfl⟩
  go_wp2_with fail
  refine (HI2.out _).mono ?_
  rintro e w1 ⟨rfl, rfl⟩
  go_wp2_with fail
  refine (HI3.out _).mono ?_
  rintro e w1 ⟨rfl, rfl⟩
  go_wp2
  go_ret2
  exact ⟨rfl, (Below.refl _ _).alloc (Nat.le_refl _) _⟩

end Go.Proofs.YtpoiopjggmhnjaaDoor
