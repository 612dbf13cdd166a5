/- arboretumlaw4.PageTells: the walk. -/
import Derived.Test.YtieklgglcjdieaaDoorROpenR
import Derived.Test.YtieklgglcjdieaaDoorPBack
namespace Go.Proofs.YtieklgglcjdieaaDoor
open Go.RowKit

def openA (id : Int) (b : ByteArray) : Value := if b.size = 256 then openV id b else .tuple #[pv 0 0 ByteArray.empty, .int .i64 5]
theorem openA_form (id : Int) (b : ByteArray) : ∃ k nx bd c, openA id b = .tuple #[.agg #[.int .i64 k, .int .i64 nx, .string bd], .int .i64 c] := by
  unfold openA openV pv
  split
  · split
    · split
      · exact ⟨_, _, _, _, rfl⟩
      · exact ⟨_, _, _, _, rfl⟩
    · exact ⟨_, _, _, _, rfl⟩
  · exact ⟨_, _, _, _, rfl⟩
theorem ref_open_any (id : Int) (b : ByteArray) (w : World) : Calls Tryd.prog 12 #[.int .i64 id, .string b] w fun e w' => e = .returned (openA id b) ∧ Below w.heap.size w w' := by
  unfold openA
  by_cases h : b.size = 256
  · rw [if_pos h]; exact ref_open_long id b w h
  · rw [if_neg h]; exact ref_open_short id b w h
theorem page_open_any (id : Int) (b : ByteArray) (w : World) : Calls Tryd.prog 11 #[.int .i64 id, .string b] w fun e w' => e = .returned (openA id b) ∧ Below w.heap.size w w' := by
  unfold openA
  by_cases h : b.size = 256
  · rw [if_pos h]
    unfold openV
    by_cases hc : unfixN b 252 4 = crcS (b.extract 0 252)
    · rw [if_pos hc]
      by_cases hf : formOK id b = true
      · rw [if_pos hf]; exact page_open_ok id b w h hc hf
      · rw [if_neg hf]; exact page_open_form id b w h hc (by simpa using hf)
    · rw [if_neg hc]; exact page_open_sum id b w h hc
  · rw [if_neg h]; exact page_open_short id b w h

theorem open_both (id : Int) (b : ByteArray) : ∃ k nx bd c, (∀ w, Calls Tryd.prog 11 #[.int .i64 id, .string b] w fun e w' => e = .returned (.tuple #[.agg #[.int .i64 k, .int .i64 nx, .string bd], .int .i64 c]) ∧ Below w.heap.size w w') ∧ (∀ w, Calls Tryd.prog 12 #[.int .i64 id, .string b] w fun e w' => e = .returned (.tuple #[.agg #[.int .i64 k, .int .i64 nx, .string bd], .int .i64 c]) ∧ Below w.heap.size w w') := by
  obtain ⟨k, nx, bd, c, h⟩ := openA_form id b
  refine ⟨k, nx, bd, c, ?_, ?_⟩
  · rw [← h]; exact page_open_any id b
  · rw [← h]; exact ref_open_any id b

theorem seal_both (id kind next : Int) (body : ByteArray) (hb : body.size ≤ 3000) : ∃ S c, (∀ w, Calls Tryd.prog 7 #[.int .i64 id, .agg #[.int .i64 kind, .int .i64 next, .string body]] w fun e w' => e = .returned (.tuple #[.string S, .int .i64 c]) ∧ Below w.heap.size w w') ∧ (∀ w, Calls Tryd.prog 8 #[.int .i64 id, .agg #[.int .i64 kind, .int .i64 next, .string body]] w fun e w' => e = .returned (.tuple #[.string S, .int .i64 c]) ∧ Below w.heap.size w w') := by
  by_cases h : sealOK id next kind
  · by_cases h2 : 240 < body.size
    · exact ⟨_, _, fun w => page_seal_long id next kind body w h h2 (by omega), fun w => ref_seal_long id next kind body w h h2 (by omega)⟩
    · obtain ⟨h0, h1, h2, h3, h4, h5⟩ := h
      obtain ⟨a, rfl⟩ := Int.eq_ofNat_of_zero_le h0
      obtain ⟨b, rfl⟩ := Int.eq_ofNat_of_zero_le h2
      obtain ⟨c, rfl⟩ := Int.eq_ofNat_of_zero_le (show 0 ≤ kind by omega)
      exact ⟨_, _, fun w => page_seal a b c body w (by omega) (by omega) (by omega) (by omega) (by omega), fun w => ref_seal a b c body w (by omega) (by omega) (by omega) (by omega) (by omega)⟩
  · exact ⟨_, _, fun w => page_seal_bad id next kind body w h, fun w => ref_seal_bad id next kind body w h⟩

theorem new3 (w : World) (k nx : Int) (bd : ByteArray) : (w.alloc (.cells #[.int .i64 k, .int .i64 nx, .string bd] 23)).cell? ⟨w.heap.size, 0, none⟩ = some (.int .i64 k) ∧ (w.alloc (.cells #[.int .i64 k, .int .i64 nx, .string bd] 23)).cell? ⟨w.heap.size, 1, none⟩ = some (.int .i64 nx) ∧ (w.alloc (.cells #[.int .i64 k, .int .i64 nx, .string bd] 23)).cell? ⟨w.heap.size, 2, none⟩ = some (.string bd) := by
  refine ⟨?_, ?_, ?_⟩ <;> go_simp

set_option maxHeartbeats 1000000 in
set_option maxRecDepth 100000 in
theorem tells_long (id kind next at' by' : Int) (own : Bool) (body b : ByteArray) (w : World) (h : 3000 < body.size ∨ 3000 < b.size) (hb : (body.size : Int) ≤ 9223372036854775807) (hb2 : (b.size : Int) ≤ 9223372036854775807) : Calls Tryd.prog 3 #[.int .i64 id, .agg #[.int .i64 kind, .int .i64 next, .string body], .string b, .int .i64 at', .int .i64 by', .bool own] w fun e w' => e = .returned (.bool true) ∧ Below w.heap.size w w' := by
  have hd : (decide ((3000 : Int) < (body.size : Int)) || decide ((3000 : Int) < (b.size : Int))) = true := by
    simp only [Bool.or_eq_true, decide_eq_true_eq]
    omega
  by_cases h1 : (3000 : Int) < (body.size : Int)
  · clear h
    go_enter Tryd.func3, Tryd.ntmps3
    go_wp2_with fail
    refine (alive_true _).mono ?_
    rintro e w3 ⟨rfl, hb3⟩
    have HB : Hid (Below w.heap.size w w3) := Lib.hid (((Below.refl _ w).alloc (Nat.le_refl _) _).trans (hb3.mono (by simp)))
    clear hb3
    go_wp2
    go_ret
    exact ⟨rfl, HB.out⟩
  · have h2 : (3000 : Int) < (b.size : Int) := by omega
    clear h hd
    go_enter Tryd.func3, Tryd.ntmps3
    go_wp2_with fail
    refine (alive_true _).mono ?_
    rintro e w3 ⟨rfl, hb3⟩
    have HB : Hid (Below w.heap.size w w3) := Lib.hid (((Below.refl _ w).alloc (Nat.le_refl _) _).trans (hb3.mono (by simp)))
    clear hb3
    go_wp2
    go_ret
    exact ⟨rfl, HB.out⟩

set_option maxHeartbeats 4000000 in
set_option maxRecDepth 100000 in
theorem tells_not (id kind next at' by' : Int) (own : Bool) (body b S : ByteArray) (c : Int) (w : World) (hb : body.size ≤ 3000) (hbb : b.size ≤ 3000) (hown : ¬ (own = true ∧ S.size = 256))
    (HS1 : Hid (∀ w, Calls Tryd.prog 7 #[.int .i64 id, .agg #[.int .i64 kind, .int .i64 next, .string body]] w fun e w' => e = .returned (.tuple #[.string S, .int .i64 c]) ∧ Below w.heap.size w w'))
    (HS2 : Hid (∀ w, Calls Tryd.prog 8 #[.int .i64 id, .agg #[.int .i64 kind, .int .i64 next, .string body]] w fun e w' => e = .returned (.tuple #[.string S, .int .i64 c]) ∧ Below w.heap.size w w')) : Calls Tryd.prog 3 #[.int .i64 id, .agg #[.int .i64 kind, .int .i64 next, .string body], .string b, .int .i64 at', .int .i64 by', .bool own] w fun e w' => e = .returned (.bool true) ∧ Below w.heap.size w w' := by
  obtain ⟨k, nx, bd, oc, ho1, ho2⟩ := open_both id b
  have HO1 := Lib.hid ho1
  have HO2 := Lib.hid ho2
  clear ho1 ho2
  have hq : own = false ∨ (own = true ∧ ((S.size : Int) == 256) = false) := by
    cases own with
    | false => exact .inl rfl
    | true =>
      refine .inr ⟨rfl, ?_⟩
      rw [beq_eq_false_iff_ne]
      intro e
      exact hown ⟨rfl, by omega⟩
  have h1 : ¬ (3000 : Int) < (body.size : Int) := by omega
  have h2 : ¬ (3000 : Int) < (b.size : Int) := by omega
  clear hown
  rcases hq with rfl | ⟨rfl, hsf⟩
  all_goals
    go_enter Tryd.func3, Tryd.ntmps3
    have c0 : (w.alloc (.cells #[.int .i64 kind, .int .i64 next, .string body] 23)).cell? ⟨w.heap.size, 0, none⟩ = some (.int .i64 kind) := by go_simp
    have c1 : (w.alloc (.cells #[.int .i64 kind, .int .i64 next, .string body] 23)).cell? ⟨w.heap.size, 1, none⟩ = some (.int .i64 next) := by clear c0; go_simp
    have c2 : (w.alloc (.cells #[.int .i64 kind, .int .i64 next, .string body] 23)).cell? ⟨w.heap.size, 2, none⟩ = some (.string body) := by clear c0 c1; go_simp
    go_wp2_with fail
    refine (HS1.out _).mono ?_
    rintro e w2 ⟨rfl, hb2⟩
    have d0 := bkeep hb2 c0
    have d1 := bkeep hb2 c1
    have d2 := bkeep hb2 c2
    have HB2 : Hid (Below w.heap.size w w2) := Lib.hid (((Below.refl _ w).alloc (Nat.le_refl _) _).trans (hb2.mono (by simp)))
    clear hb2 c0 c1 c2
    go_wp2_with fail
    refine (HS2.out _).mono ?_
    rintro e w3 ⟨rfl, hb3⟩
    have HB3 := Lib.hid (HB2.out.trans (hb3.mono HB2.out.size))
    clear hb3 d0 d1 d2 HB2
    go_wp2_with fail
    refine (HO1.out _).mono ?_
    rintro e w4 ⟨rfl, hb4⟩
    have HB4 : Hid (Below w.heap.size w w4) := Lib.hid (HB3.out.trans (hb4.mono HB3.out.size))
    clear hb4
    have HN4 := Lib.hid (new3 w4 k nx bd)
    go_wp2_with fail
    refine (HO2.out _).mono ?_
    rintro e w5 ⟨rfl, hb5⟩
    have HB5 : Hid (Below w.heap.size w w5) := Lib.hid ((HB4.out.alloc HB4.out.size _).trans (hb5.mono (by simp; have := HB4.out.size; omega)))
    have a0 := bkeep hb5 HN4.out.1
    have a1 := bkeep hb5 HN4.out.2.1
    have a2 := bkeep hb5 HN4.out.2.2
    have HA := Lib.hid (And.intro a0 (And.intro a1 a2))
    have HN5 := Lib.hid (new3 w5 k nx bd)
    clear hb5 a0 a1 a2 HN4
    go_wp2_with fail
    refine (alive_true _).mono ?_
    rintro e w6 ⟨rfl, hb6⟩
    have x0 := bkeep hb6 (bkeep ((Below.refl _ w5).alloc (Nat.le_refl _) _) HA.out.1)
    have x1 := bkeep hb6 (bkeep ((Below.refl _ w5).alloc (Nat.le_refl _) _) HA.out.2.1)
    have x2 := bkeep hb6 (bkeep ((Below.refl _ w5).alloc (Nat.le_refl _) _) HA.out.2.2)
    have y0 := bkeep hb6 HN5.out.1
    have y1 := bkeep hb6 HN5.out.2.1
    have y2 := bkeep hb6 HN5.out.2.2
    have HB6 : Hid (Below w.heap.size w w6) := Lib.hid ((HB5.out.alloc HB5.out.size _).trans (hb6.mono (by simp; have := HB5.out.size; omega)))
    clear hb6 HA HN5
    go_wp2
    go_ret
    exact ⟨rfl, HB6.out⟩
end Go.Proofs.YtieklgglcjdieaaDoor
