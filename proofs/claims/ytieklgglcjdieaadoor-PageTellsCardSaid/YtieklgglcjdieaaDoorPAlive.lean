/- page.Seal's refusals; arboretumlaw4.alive is true. -/
import Derived.Test.YtieklgglcjdieaaDoorSealL
namespace Go.Proofs.YtieklgglcjdieaaDoor
open Go.RowKit

/-- Are the numbers such that a page can be sealed? -/
def sealOK (id next kind : Int) : Prop := 0 ≤ id ∧ id < 4294967296 ∧ 0 ≤ next ∧ next < 4294967296 ∧ 1 ≤ kind ∧ kind ≤ 255

set_option maxHeartbeats 1000000 in
set_option maxRecDepth 100000 in
theorem page_seal_bad (id next kind : Int) (body : ByteArray) (w : World) (h : ¬ sealOK id next kind) :
    Calls Tryd.prog 7 #[.int .i64 id, .agg #[.int .i64 kind, .int .i64 next, .string body]] w fun e w' => e = .returned (.tuple #[.string ByteArray.empty, .int .i64 1]) ∧ Below w.heap.size w w' := by
  unfold sealOK at h
  by_cases h1 : id < 0 ∨ 4294967295 < id
  · have HI1 := Lib.hid (fun w => in_no id 0 4294967295 w h1)
    clear h h1
    go_enter Tryd.func7, Tryd.ntmps7
    go_wp2_with fail
    refine (HI1.out _).mono ?_
    rintro e w1 ⟨rfl, rfl⟩
    go_wp2
    go_ret2
    exact ⟨rfl, (Below.refl _ _).alloc (Nat.le_refl _) _⟩
  have HI1 := Lib.hid (fun w => in_yes id 0 4294967295 w (by omega) (by omega))
  by_cases h2 : next < 0 ∨ 4294967295 < next
  · have HI2 := Lib.hid (fun w => in_no next 0 4294967295 w h2)
    clear h h1 h2
    go_enter Tryd.func7, Tryd.ntmps7
    go_wp2_with fail
    refine (HI1.out _).mono ?_
    rintro e w1 ⟨rfl, rfl⟩
    go_wp2_with fail
    refine (HI2.out _).mono ?_
    rintro e w1 ⟨rfl, rfl⟩
    go_wp2
    go_ret2
    exact ⟨rfl, (Below.refl _ _).alloc (Nat.le_refl _) _⟩
  have HI2 := Lib.hid (fun w => in_yes next 0 4294967295 w (by omega) (by omega))
  have HI3 := Lib.hid (fun w => in_no kind 1 255 w (by omega))
  clear h h1 h2
  go_enter Tryd.func7, Tryd.ntmps7
  go_wp2_with fail
  refine (HI1.out _).mono ?_
  rintro e w1 ⟨rfl, rfl⟩
  go_wp2_with fail
  refine (HI2.out _).mono ?_
  rintro e w1 ⟨rfl, rfl⟩
  go_wp2_with fail
  refine (HI3.out _).mono ?_
  rintro e w1 ⟨rfl, rfl⟩
  go_wp2
  go_ret2
  exact ⟨rfl, (Below.refl _ _).alloc (Nat.le_refl _) _⟩

set_option maxHeartbeats 1000000 in
set_option maxRecDepth 100000 in
theorem page_seal_long (id next kind : Int) (body : ByteArray) (w : World) (h : sealOK id next kind) (hb : 240 < body.size) (hb2 : body.size ≤ 1000000) :
    Calls Tryd.prog 7 #[.int .i64 id, .agg #[.int .i64 kind, .int .i64 next, .string body]] w fun e w' => e = .returned (.tuple #[.string ByteArray.empty, .int .i64 2]) ∧ Below w.heap.size w w' := by
  obtain ⟨h1, h2, h3, h4, h5, h6⟩ := h
  have HI1 := Lib.hid (fun w => in_yes id 0 4294967295 w (by omega) (by omega))
  have HI2 := Lib.hid (fun w => in_yes next 0 4294967295 w (by omega) (by omega))
  have HI3 := Lib.hid (fun w => in_yes kind 1 255 w (by omega) (by omega))
  clear h1 h2 h3 h4 h5 h6
  go_enter Tryd.func7, Tryd.ntmps7
  go_wp2_with fail
  refine (HI1.out _).mono ?_
  rintro e w1 ⟨rfl, rfl⟩
  go_wp2_with fail
  refine (HI2.out _).mono ?_
  rintro e w1 ⟨rfl, rfl⟩
  go_wp2_with fail
  refine (HI3.out _).mono ?_
  rintro e w1 ⟨rfl, rfl⟩
  go_wp2
  go_ret2
  exact ⟨rfl, (Below.refl _ _).alloc (Nat.le_refl _) _⟩

set_option maxHeartbeats 2000000 in
set_option maxRecDepth 100000 in
theorem alive_true (w : World) : Calls Tryd.prog 6 #[] w fun e w' => e = .returned (.bool true) ∧ Below w.heap.size w w' := by
  have HS : Hid (Calls Tryd.prog 7 #[.int .i64 7, .agg #[.int .i64 2, .int .i64 0, .string ⟨#[120]⟩]] w fun e w' => e = .returned (.tuple #[.string (sealS 7 0 2 ⟨#[120]⟩), .int .i64 0]) ∧ Below w.heap.size w w') := Lib.hid (page_seal 7 0 2 ⟨#[120]⟩ w (by omega) (by omega) (by omega) (by omega) (by decide))
  have HO1 : Hid (∀ w, Calls Tryd.prog 11 #[.int .i64 7, .string (sealS 7 0 2 ⟨#[120]⟩)] w fun e w' => e = .returned (.tuple #[pv 2 0 ⟨#[120]⟩, .int .i64 0]) ∧ Below w.heap.size w w') := Lib.hid (fun w => open_seal 7 0 2 ⟨#[120]⟩ w (by omega) (by omega) (by omega) (by omega) (by decide))
  have HO2 : Hid (∀ w, Calls Tryd.prog 11 #[.int .i64 8, .string (sealS 7 0 2 ⟨#[120]⟩)] w fun e w' => e = .returned (.tuple #[pv 0 0 ByteArray.empty, .int .i64 4]) ∧ Below w.heap.size w w') := Lib.hid (fun w => open_other 7 0 2 8 ⟨#[120]⟩ w (by omega) (by omega) (by omega) (by decide) (by omega))
  have HSZ := Lib.hid (sealS_size 7 0 2 ⟨#[120]⟩ (by decide))
  generalize sealS 7 0 2 ⟨#[120]⟩ = S at *
  have hsz : ((S.size : Int) == 256) = true := by rw [HSZ.out]; rfl
  go_enter Tryd.func6, Tryd.ntmps6
  go_wp2_with fail
  refine HS.out.mono ?_
  rintro e w1 ⟨rfl, hb1⟩
  have HB1 := Lib.hid hb1
  clear hb1 HS
  go_wp2_with fail
  refine (HO1.out _).mono ?_
  rintro e w2 ⟨rfl, hb2⟩
  have HB2 := Lib.hid (HB1.out.trans (hb2.mono HB1.out.size))
  clear hb2 HO1
  unfold pv
  have c0 : (w2.alloc (.cells #[.int .i64 2, .int .i64 0, .string ⟨#[120]⟩] 23)).cell? ⟨w2.heap.size, 0, none⟩ = some (.int .i64 2) := by go_simp
  have c1 : (w2.alloc (.cells #[.int .i64 2, .int .i64 0, .string ⟨#[120]⟩] 23)).cell? ⟨w2.heap.size, 1, none⟩ = some (.int .i64 0) := by clear c0; go_simp
  have c2 : (w2.alloc (.cells #[.int .i64 2, .int .i64 0, .string ⟨#[120]⟩] 23)).cell? ⟨w2.heap.size, 2, none⟩ = some (.string ⟨#[120]⟩) := by clear c0 c1; go_simp
  have HC0 := Lib.hid c0
  have HC1 := Lib.hid c1
  have HC2 := Lib.hid c2
  clear c0 c1 c2
  go_wp2_with fail
  refine (HO2.out _).mono ?_
  rintro e w3 ⟨rfl, hb3⟩
  have d0 := bkeep hb3 HC0.out
  have d1 := bkeep hb3 HC1.out
  have d2 := bkeep hb3 HC2.out
  have hlt : w2.heap.size < w3.heap.size := cell_lt d0
  have hne : w2.heap.size ≠ w3.heap.size := by omega
  have HB3 : Hid (Below w.heap.size w w3) := Lib.hid ((HB2.out.alloc HB2.out.size _).trans (hb3.mono (by simp; have := HB2.out.size; omega)))
  have HBE : Hid (Below w.heap.size w (w3.alloc (.cells #[.int .i64 0, .int .i64 0, .string ByteArray.empty] 23))) := Lib.hid (HB3.out.alloc HB3.out.size _)
  clear hb3 HC0 HC1 HC2 HO2
  unfold pv
  go_wp2
  go_ret
  exact ⟨rfl, HBE.out⟩
end Go.Proofs.YtieklgglcjdieaaDoor
