/- page.Open, of a page that is whole. -/
import Derived.Test.YtpoiopjggmhnjaaDoorPOpen
namespace Go.Proofs.YtpoiopjggmhnjaaDoor
open Go.RowKit
attribute [local go_sem ↓] Go.wp_at_zero Go.wp_at_succ

theorem bkeep {w w' : World} {p : Addr} {v : Value} (hb : Below w.heap.size w w') (h : w.cell? p = some v) : w'.cell? p = some v := (hb.cell (cell_lt h)).trans h
theorem bkeepF {w w' : World} {p : Addr} {v : Value} (hb : Below w.heap.size w w') (h : w.cell? p = some v) : w'.frozen? p = w.frozen? p := hb.frozen (cell_lt h)

theorem cells3 {w : World} {b : Nat} {u0 u1 u2 v0 v1 v2 : Value} (d0 : w.cell? ⟨b, 0, none⟩ = some u0) (d1 : w.cell? ⟨b, 1, none⟩ = some u1) (d2 : w.cell? ⟨b, 2, none⟩ = some u2) :
    (((w.setCell ⟨b, 0, none⟩ v0).setCell ⟨b, 1, none⟩ v1).setCell ⟨b, 2, none⟩ v2).cell? ⟨b, 0, none⟩ = some v0 ∧ (((w.setCell ⟨b, 0, none⟩ v0).setCell ⟨b, 1, none⟩ v1).setCell ⟨b, 2, none⟩ v2).cell? ⟨b, 1, none⟩ = some v1 ∧ (((w.setCell ⟨b, 0, none⟩ v0).setCell ⟨b, 1, none⟩ v1).setCell ⟨b, 2, none⟩ v2).cell? ⟨b, 2, none⟩ = some v2 := by
  have ne : ∀ (w : World) (i j : Nat) (v : Value), i ≠ j → (w.setCell ⟨b, i, none⟩ v).cell? ⟨b, j, none⟩ = w.cell? ⟨b, j, none⟩ := fun w i j v h => World.cell?_setCell_other _ _ _ _ (by intro e; injection e with _ e _; omega)
  refine ⟨?_, ?_, ?_⟩
  · rw [ne _ 2 0 _ (by omega), ne _ 1 0 _ (by omega)]; exact cell_set_same _ _ _ _ d0
  · rw [ne _ 2 1 _ (by omega)]; exact cell_set_same _ _ _ u1 (by rw [ne _ 0 1 _ (by omega)]; exact d1)
  · exact cell_set_same _ _ _ u2 (by rw [ne _ 1 2 _ (by omega), ne _ 0 2 _ (by omega)]; exact d2)

set_option maxHeartbeats 4000000 in
set_option maxRecDepth 100000 in
theorem page_open_ok (id : Int) (b : ByteArray) (w : World) (h : b.size = 256) (hc : unfixN b 252 4 = crcS (b.extract 0 252)) (hf : formOK id b = true) :
    Calls Tryd.prog 30 #[.int .i64 id, .string b] w fun e w' => e = .returned (.tuple #[pv (byteAt b 0 : Nat) (unfixN b 5 4 : Nat) (b.extract 11 (11 + unfixN b 9 2)), .int .i64 0]) ∧ Below w.heap.size w w' := by
  have h1 : ((b.size : Int) != 256) = false := by rw [h]; rfl
  have hle : b.size ≤ 256 := by omega
  have hge : 256 ≤ b.size := by omega
  have hgi : (252 : Int) ≤ (b.size : Int) := by omega
  have HG : Hid (∀ w, Calls Tryd.prog 55 #[.string b, .int .i64 252, .int .i64 4] w fun e w' => e = .returned (.int .i64 (unfixN b 252 4 : Nat)) ∧ w' = w) := Lib.hid (fun w => page_get b 252 4 w (by omega) (by omega) (by omega) (by omega))
  have HG9 : Hid (∀ w, Calls Tryd.prog 55 #[.string b, .int .i64 9, .int .i64 2] w fun e w' => e = .returned (.int .i64 (unfixN b 9 2 : Nat)) ∧ w' = w) := Lib.hid (fun w => page_get b 9 2 w (by omega) (by omega) (by omega) (by omega))
  have HG1 : Hid (∀ w, Calls Tryd.prog 55 #[.string b, .int .i64 1, .int .i64 4] w fun e w' => e = .returned (.int .i64 (unfixN b 1 4 : Nat)) ∧ w' = w) := Lib.hid (fun w => page_get b 1 4 w (by omega) (by omega) (by omega) (by omega))
  have HG5 : Hid (∀ w, Calls Tryd.prog 55 #[.string b, .int .i64 5, .int .i64 4] w fun e w' => e = .returned (.int .i64 (unfixN b 5 4 : Nat)) ∧ w' = w) := Lib.hid (fun w => page_get b 5 4 w (by omega) (by omega) (by omega) (by omega))
  have hsx : (b.extract 0 252).size ≤ 1000000 := by rw [ByteArray.size_extract]; omega
  have HCR := Lib.hid (fun g c w hc => num_crc (b.extract 0 252) g c w hc hsx)
  have hb0 := byteAt_get b 0 (Nat.lt_of_lt_of_le (by decide : 0 < 256) hge)
  have hn16 := unfixN_lt b 9 2
  have hk8 := byteAt_lt b 0
  have hne : (((unfixN b 252 4 : Nat) : Int) != ((crcS (b.extract 0 252) : Nat) : Int)) = false := by rw [hc]; simp
  unfold formOK at hf
  simp only [Bool.and_eq_true, decide_eq_true_eq, List.all_eq_true, Bool.not_eq_true', beq_eq_false_iff_ne, beq_iff_eq] at hf
  obtain ⟨⟨⟨hf1, hf2⟩, hf3⟩, hf4⟩ := hf
  have htr : Lib.trimB (b.extract (11 + unfixN b 9 2) 252).data.toList 0 = [] := (trim_nil _).2 hf4
  clear h hc hsx hf4
  generalize unfixN b 252 4 = u at *
  generalize crcS (b.extract 0 252) = v at *
  generalize unfixN b 9 2 = n at *
  generalize unfixN b 1 4 = own at *
  generalize unfixN b 5 4 = nx at *
  generalize byteAt b 0 = k0 at *
  have hn : n < 65536 := by omega
  clear hn16
  have ho2 : ((own : Int) != id) = false := by rw [hf1]; simp
  have hk2 : ((k0 : Int) == 0) = false := by simp; omega
  have HTR : Hid (∀ w, Calls Tryd.prog 56 #[.string (b.extract (11 + n) 252), .string ⟨#[0]⟩] w fun e w' => e = .returned (.string ⟨#[]⟩) ∧ (w' = w ∨ w' = w.drew)) := Lib.hid (fun w => by
    have e := Tryd.strings_Trim_one (b.extract (11 + n) 252) 0 (by decide) w (by rw [ByteArray.size_extract]; omega)
    rw [htr] at e
    exact e)
  have HCN : Hid (∀ w, Calls Tryd.prog 38 #[.string (b.extract 11 (11 + n))] w fun e w' => e = .returned (.string (b.extract 11 (11 + n))) ∧ Below w.heap.size w w') := Lib.hid (fun w => clone_pg _ w (by rw [ByteArray.size_extract]; omega))
  have hn1 : (11 : Int) ≤ 11 + (n : Int) := by omega
  have hn2 : (11 : Int) + (n : Int) ≤ (b.size : Int) := by omega
  have hn3 : IntKind.i64.wrap (11 + (n : Int)) = 11 + (n : Int) := IntWalk.i64_in _ ⟨by omega, by omega⟩
  have HN3 := Lib.hid hn3
  clear hf1 hf2 htr hn3
  go_enter Tryd.func30, Tryd.ntmps30
  go_wp2_with fail
  go_region_held3 (fun _ => True) (first | trivial | go_keep)
    (first
      | (go_at_call 55; refine (HG.out _).mono ?_; rintro e w5 ⟨rfl, rfl⟩)
      | (go_at_call 51; refine (HCR.out _ _ _ (by simp)).mono ?_; rintro e w6 ⟨rfl, rfl⟩))
  all_goals
    go_wp2_with fail
    refine (HG9.out _).mono ?_
    rintro e w7 ⟨rfl, rfl⟩
    go_wp2_with fail
    refine (HG1.out _).mono ?_
    rintro e w7 ⟨rfl, rfl⟩
    go_wp2_with fail
    refine (HTR.out _).mono ?_
    rintro e w7 ⟨rfl, hw⟩
    have c0 : w7.cell? ⟨w.heap.size, 0, none⟩ = some (.int .i64 0) := by rcases hw with rfl | rfl <;> go_simp
    have c1 : w7.cell? ⟨w.heap.size, 1, none⟩ = some (.int .i64 0) := by clear c0; rcases hw with rfl | rfl <;> go_simp
    have c2 : w7.cell? ⟨w.heap.size, 2, none⟩ = some (.string ByteArray.empty) := by clear c0 c1; rcases hw with rfl | rfl <;> (go_simp; rfl)
    have f0 : ∀ k, w7.frozen? ⟨w.heap.size, k, none⟩ = false := by clear c0 c1 c2; intro k; rcases hw with rfl | rfl <;> go_simp
    have HB7 : Hid (Below w.heap.size w w7) := Lib.hid (by rcases hw with rfl | rfl <;> repeat (first | exact Below.refl _ _ | refine Below.drew ?_ | refine Below.alloc ?_ (by simp) _))
    clear hw
    have HF0 := Lib.hid f0
    clear f0
    go_wp2_with fail
    have hn4 := HN3.out
    have hwk : IntKind.i64.wrap (k0 : Int) = (k0 : Int) := IntWalk.i64_in _ ⟨by omega, by omega⟩
    go_region_held3 (fun _ => True) (first | trivial | go_keep)
      (first
        | (go_at_call 55; refine (HG5.out _).mono ?_; rintro e w8 ⟨rfl, rfl⟩)
        | (go_at_call 38; refine (HCN.out _).mono ?_; rintro e w9 ⟨rfl, hb9⟩; have d0 : w9.cell? ⟨w.heap.size, 0, none⟩ = some (.int .i64 0) := bkeep hb9 c0; have d1 : w9.cell? ⟨w.heap.size, 1, none⟩ = some (.int .i64 0) := bkeep hb9 c1; have d2 : w9.cell? ⟨w.heap.size, 2, none⟩ = some (.string ByteArray.empty) := bkeep hb9 c2; have e0 : w9.frozen? ⟨w.heap.size, 0, none⟩ = false := (bkeepF hb9 c0).trans (HF0.out 0); have e1 : w9.frozen? ⟨w.heap.size, 1, none⟩ = false := (bkeepF hb9 c1).trans (HF0.out 1); have e2 : w9.frozen? ⟨w.heap.size, 2, none⟩ = false := (bkeepF hb9 c2).trans (HF0.out 2)))
  all_goals
    have hx := cells3 (v0 := .int .i64 (k0 : Int)) (v1 := .int .i64 (nx : Int)) (v2 := .string (b.extract 11 (11 + n))) d0 d1 d2
    have HBE : Hid (Below w.heap.size w (((w9.setCell ⟨w.heap.size, 0, none⟩ (.int .i64 (k0 : Int))).setCell ⟨w.heap.size, 1, none⟩ (.int .i64 (nx : Int))).setCell ⟨w.heap.size, 2, none⟩ (.string (b.extract 11 (11 + n))))) := Lib.hid (((((HB7.out.trans ((Below.refl _ _).drew |>.trans (hb9.mono HB7.out.size)))).setCell (Nat.le_refl _) _).setCell (Nat.le_refl _) _).setCell (Nat.le_refl _) _)
    clear hwk
    generalize ((w9.setCell ⟨w.heap.size, 0, none⟩ (.int .i64 (k0 : Int))).setCell ⟨w.heap.size, 1, none⟩ (.int .i64 (nx : Int))).setCell ⟨w.heap.size, 2, none⟩ (.string (b.extract 11 (11 + n))) = X at *
    obtain ⟨x0, x1, x2⟩ := hx
    clear c0 c1 c2 d0 d1 d2 e0 e1 e2 hb9
    go_wp2
    exact bodyPost_ret (v := .tuple #[pv (k0 : Int) (nx : Int) (b.extract 11 (11 + n)), .int .i64 0]) (by simp [results, Tryd.results30, go_sem, pv, x0, x1, x2]) rfl ⟨rfl, HBE.out⟩
end Go.Proofs.YtpoiopjggmhnjaaDoor
