/- arboretumlaw4.PageBounds: the walk. -/
import Derived.Test.YtieklgglcjdieaaDoorPAlive
namespace Go.Proofs.YtieklgglcjdieaaDoor
open Go.RowKit

def zeroS (n : Nat) : ByteArray := ⟨(List.replicate n (0 : UInt8)).toArray⟩
theorem zeroS_size (n : Nat) : (zeroS n).size = n := zeros_size n

theorem conv_made {w1 : World} {B n : Nat} (how : w1.ownsRow B 5 1 (.slice (some ⟨B, 0, none⟩) n n) n (madeCells (Value.int .u8 0).cells (n * 1)).toList) :
    (convert 28 9 (.slice (some ⟨B, 0, none⟩) n n)).run Tryd.prog w1 = .ok (.string (zeroS n)) w1 := by
  have e := run_convert_bytes_back (P := Tryd.prog) w1 28 9 5 ⟨B, 0, none⟩ n (List.replicate n (0 : UInt8)) Tryd.underlying28 Tryd.underlying5 Tryd.underlying9 (fun j hj => by
    have hj2 : j < n := by rw [List.length_replicate] at hj; exact hj
    refine how.cells (g := B) rfl j _ ?_
    have e2 : (madeCells (Value.int .u8 0).cells (n * 1)).toList = List.replicate (n * 1) (Value.int .u8 0) := toList_madeCells_one _ _
    rw [e2, List.getElem?_replicate, if_pos (by omega), List.getElem_replicate]
    rfl)
  rw [List.length_replicate] at e
  exact e

set_option maxRecDepth 100000 in
theorem bounds_out (id next kind n : Int) (w : World) (h : n < 0 ∨ 400 < n) : Calls Tryd.prog 5 #[.int .i64 id, .int .i64 next, .int .i64 kind, .int .i64 n] w fun e w' => e = .returned (.bool true) ∧ Below w.heap.size w w' := by
  by_cases h1 : n < 0
  · clear h
    go_enter Tryd.func5, Tryd.ntmps5
    go_wp2_with fail
    refine (alive_true _).mono ?_
    rintro e w3 ⟨rfl, hb3⟩
    have HB := Lib.hid hb3
    clear hb3
    go_wp2
    go_ret
    exact ⟨rfl, HB.out⟩
  · have h2 : 400 < n := h.resolve_left h1
    clear h
    go_enter Tryd.func5, Tryd.ntmps5
    go_wp2_with fail
    refine (alive_true _).mono ?_
    rintro e w3 ⟨rfl, hb3⟩
    have HB := Lib.hid hb3
    clear hb3
    go_wp2
    go_ret
    exact ⟨rfl, HB.out⟩

set_option maxHeartbeats 2000000 in
set_option maxRecDepth 100000 in
theorem bounds_0 (id next kind : Int) (n : Nat) (w : World) (hn : n ≤ 400)  (h : id < 0) : Calls Tryd.prog 5 #[.int .i64 id, .int .i64 next, .int .i64 kind, .int .i64 n] w fun e w' => e = .returned (.bool true) ∧ Below w.heap.size w w' := by
  obtain ⟨i0, hi0, hz0, hz1, hz2⟩ := info_parts info_u8
  have HS : Hid (∀ w, Calls Tryd.prog 7 #[.int .i64 id, .agg #[.int .i64 kind, .int .i64 next, .string (zeroS n)]] w fun e w' => e = .returned (.tuple #[.string ByteArray.empty, .int .i64 1]) ∧ Below w.heap.size w w') := Lib.hid (fun w => page_seal_bad id next kind (zeroS n) w (by unfold sealOK; omega))
  go_enter Tryd.func5, Tryd.ntmps5
  go_wp2_with (refine wpList_make_full _ rfl _ _ _ rfl w.heap.size 5 i0 _ 1 Tryd.underlying28 hi0 hz0 hz1 .i64 .i64 n n n rfl rfl rfl rfl (by rw [hz2]; omega) (by unfold maxLen; omega) (Nat.le_refl _) ?_; intro w1 how hgr; have hcv := conv_made how; have HB1 : Hid (Below w.heap.size w w1) := (Below.refl _ w).grown hgr (Nat.le_refl _) (fun k hk => by cases hk); clear how hgr)
  refine (HS.out _).mono ?_
  rintro e w2 ⟨rfl, hb2⟩
  have HB2 := Lib.hid (HB1.out.trans (hb2.mono HB1.out.size))
  clear hb2 hcv HS
  go_wp2_with fail
  refine (alive_true _).mono ?_
  rintro e w3 ⟨rfl, hb3⟩
  have HB3 := Lib.hid (HB2.out.trans (hb3.mono HB2.out.size))
  clear hb3
  go_wp2
  go_ret
  exact ⟨rfl, HB3.out⟩

set_option maxHeartbeats 2000000 in
set_option maxRecDepth 100000 in
theorem bounds_1 (id next kind : Int) (n : Nat) (w : World) (hn : n ≤ 400) (h0 : 0 ≤ id) (h : 4294967296 ≤ id) : Calls Tryd.prog 5 #[.int .i64 id, .int .i64 next, .int .i64 kind, .int .i64 n] w fun e w' => e = .returned (.bool true) ∧ Below w.heap.size w w' := by
  obtain ⟨i0, hi0, hz0, hz1, hz2⟩ := info_parts info_u8
  have HS : Hid (∀ w, Calls Tryd.prog 7 #[.int .i64 id, .agg #[.int .i64 kind, .int .i64 next, .string (zeroS n)]] w fun e w' => e = .returned (.tuple #[.string ByteArray.empty, .int .i64 1]) ∧ Below w.heap.size w w') := Lib.hid (fun w => page_seal_bad id next kind (zeroS n) w (by unfold sealOK; omega))
  go_enter Tryd.func5, Tryd.ntmps5
  go_wp2_with (refine wpList_make_full _ rfl _ _ _ rfl w.heap.size 5 i0 _ 1 Tryd.underlying28 hi0 hz0 hz1 .i64 .i64 n n n rfl rfl rfl rfl (by rw [hz2]; omega) (by unfold maxLen; omega) (Nat.le_refl _) ?_; intro w1 how hgr; have hcv := conv_made how; have HB1 : Hid (Below w.heap.size w w1) := (Below.refl _ w).grown hgr (Nat.le_refl _) (fun k hk => by cases hk); clear how hgr)
  refine (HS.out _).mono ?_
  rintro e w2 ⟨rfl, hb2⟩
  have HB2 := Lib.hid (HB1.out.trans (hb2.mono HB1.out.size))
  clear hb2 hcv HS
  go_wp2_with fail
  refine (alive_true _).mono ?_
  rintro e w3 ⟨rfl, hb3⟩
  have HB3 := Lib.hid (HB2.out.trans (hb3.mono HB2.out.size))
  clear hb3
  go_wp2
  go_ret
  exact ⟨rfl, HB3.out⟩

set_option maxHeartbeats 2000000 in
set_option maxRecDepth 100000 in
theorem bounds_2 (id next kind : Int) (n : Nat) (w : World) (hn : n ≤ 400) (h0 : 0 ≤ id) (h1 : id < 4294967296) (h : next < 0) : Calls Tryd.prog 5 #[.int .i64 id, .int .i64 next, .int .i64 kind, .int .i64 n] w fun e w' => e = .returned (.bool true) ∧ Below w.heap.size w w' := by
  obtain ⟨i0, hi0, hz0, hz1, hz2⟩ := info_parts info_u8
  have HS : Hid (∀ w, Calls Tryd.prog 7 #[.int .i64 id, .agg #[.int .i64 kind, .int .i64 next, .string (zeroS n)]] w fun e w' => e = .returned (.tuple #[.string ByteArray.empty, .int .i64 1]) ∧ Below w.heap.size w w') := Lib.hid (fun w => page_seal_bad id next kind (zeroS n) w (by unfold sealOK; omega))
  go_enter Tryd.func5, Tryd.ntmps5
  go_wp2_with (refine wpList_make_full _ rfl _ _ _ rfl w.heap.size 5 i0 _ 1 Tryd.underlying28 hi0 hz0 hz1 .i64 .i64 n n n rfl rfl rfl rfl (by rw [hz2]; omega) (by unfold maxLen; omega) (Nat.le_refl _) ?_; intro w1 how hgr; have hcv := conv_made how; have HB1 : Hid (Below w.heap.size w w1) := (Below.refl _ w).grown hgr (Nat.le_refl _) (fun k hk => by cases hk); clear how hgr)
  refine (HS.out _).mono ?_
  rintro e w2 ⟨rfl, hb2⟩
  have HB2 := Lib.hid (HB1.out.trans (hb2.mono HB1.out.size))
  clear hb2 hcv HS
  go_wp2_with fail
  refine (alive_true _).mono ?_
  rintro e w3 ⟨rfl, hb3⟩
  have HB3 := Lib.hid (HB2.out.trans (hb3.mono HB2.out.size))
  clear hb3
  go_wp2
  go_ret
  exact ⟨rfl, HB3.out⟩

set_option maxHeartbeats 2000000 in
set_option maxRecDepth 100000 in
theorem bounds_3 (id next kind : Int) (n : Nat) (w : World) (hn : n ≤ 400) (h0 : 0 ≤ id) (h1 : id < 4294967296) (h2 : 0 ≤ next) (h : 4294967296 ≤ next) : Calls Tryd.prog 5 #[.int .i64 id, .int .i64 next, .int .i64 kind, .int .i64 n] w fun e w' => e = .returned (.bool true) ∧ Below w.heap.size w w' := by
  obtain ⟨i0, hi0, hz0, hz1, hz2⟩ := info_parts info_u8
  have HS : Hid (∀ w, Calls Tryd.prog 7 #[.int .i64 id, .agg #[.int .i64 kind, .int .i64 next, .string (zeroS n)]] w fun e w' => e = .returned (.tuple #[.string ByteArray.empty, .int .i64 1]) ∧ Below w.heap.size w w') := Lib.hid (fun w => page_seal_bad id next kind (zeroS n) w (by unfold sealOK; omega))
  go_enter Tryd.func5, Tryd.ntmps5
  go_wp2_with (refine wpList_make_full _ rfl _ _ _ rfl w.heap.size 5 i0 _ 1 Tryd.underlying28 hi0 hz0 hz1 .i64 .i64 n n n rfl rfl rfl rfl (by rw [hz2]; omega) (by unfold maxLen; omega) (Nat.le_refl _) ?_; intro w1 how hgr; have hcv := conv_made how; have HB1 : Hid (Below w.heap.size w w1) := (Below.refl _ w).grown hgr (Nat.le_refl _) (fun k hk => by cases hk); clear how hgr)
  refine (HS.out _).mono ?_
  rintro e w2 ⟨rfl, hb2⟩
  have HB2 := Lib.hid (HB1.out.trans (hb2.mono HB1.out.size))
  clear hb2 hcv HS
  go_wp2_with fail
  refine (alive_true _).mono ?_
  rintro e w3 ⟨rfl, hb3⟩
  have HB3 := Lib.hid (HB2.out.trans (hb3.mono HB2.out.size))
  clear hb3
  go_wp2
  go_ret
  exact ⟨rfl, HB3.out⟩

set_option maxHeartbeats 2000000 in
set_option maxRecDepth 100000 in
theorem bounds_4 (id next kind : Int) (n : Nat) (w : World) (hn : n ≤ 400) (h0 : 0 ≤ id) (h1 : id < 4294967296) (h2 : 0 ≤ next) (h3 : next < 4294967296) (h : kind < 1) : Calls Tryd.prog 5 #[.int .i64 id, .int .i64 next, .int .i64 kind, .int .i64 n] w fun e w' => e = .returned (.bool true) ∧ Below w.heap.size w w' := by
  obtain ⟨i0, hi0, hz0, hz1, hz2⟩ := info_parts info_u8
  have HS : Hid (∀ w, Calls Tryd.prog 7 #[.int .i64 id, .agg #[.int .i64 kind, .int .i64 next, .string (zeroS n)]] w fun e w' => e = .returned (.tuple #[.string ByteArray.empty, .int .i64 1]) ∧ Below w.heap.size w w') := Lib.hid (fun w => page_seal_bad id next kind (zeroS n) w (by unfold sealOK; omega))
  go_enter Tryd.func5, Tryd.ntmps5
  go_wp2_with (refine wpList_make_full _ rfl _ _ _ rfl w.heap.size 5 i0 _ 1 Tryd.underlying28 hi0 hz0 hz1 .i64 .i64 n n n rfl rfl rfl rfl (by rw [hz2]; omega) (by unfold maxLen; omega) (Nat.le_refl _) ?_; intro w1 how hgr; have hcv := conv_made how; have HB1 : Hid (Below w.heap.size w w1) := (Below.refl _ w).grown hgr (Nat.le_refl _) (fun k hk => by cases hk); clear how hgr)
  refine (HS.out _).mono ?_
  rintro e w2 ⟨rfl, hb2⟩
  have HB2 := Lib.hid (HB1.out.trans (hb2.mono HB1.out.size))
  clear hb2 hcv HS
  go_wp2_with fail
  refine (alive_true _).mono ?_
  rintro e w3 ⟨rfl, hb3⟩
  have HB3 := Lib.hid (HB2.out.trans (hb3.mono HB2.out.size))
  clear hb3
  go_wp2
  go_ret
  exact ⟨rfl, HB3.out⟩

set_option maxHeartbeats 2000000 in
set_option maxRecDepth 100000 in
theorem bounds_5 (id next kind : Int) (n : Nat) (w : World) (hn : n ≤ 400) (h0 : 0 ≤ id) (h1 : id < 4294967296) (h2 : 0 ≤ next) (h3 : next < 4294967296) (h4 : 1 ≤ kind) (h : 255 < kind) : Calls Tryd.prog 5 #[.int .i64 id, .int .i64 next, .int .i64 kind, .int .i64 n] w fun e w' => e = .returned (.bool true) ∧ Below w.heap.size w w' := by
  obtain ⟨i0, hi0, hz0, hz1, hz2⟩ := info_parts info_u8
  have HS : Hid (∀ w, Calls Tryd.prog 7 #[.int .i64 id, .agg #[.int .i64 kind, .int .i64 next, .string (zeroS n)]] w fun e w' => e = .returned (.tuple #[.string ByteArray.empty, .int .i64 1]) ∧ Below w.heap.size w w') := Lib.hid (fun w => page_seal_bad id next kind (zeroS n) w (by unfold sealOK; omega))
  have hk9 : decide (kind ≤ 255) = false := by simp; omega
  go_enter Tryd.func5, Tryd.ntmps5
  go_wp2_with (refine wpList_make_full _ rfl _ _ _ rfl w.heap.size 5 i0 _ 1 Tryd.underlying28 hi0 hz0 hz1 .i64 .i64 n n n rfl rfl rfl rfl (by rw [hz2]; omega) (by unfold maxLen; omega) (Nat.le_refl _) ?_; intro w1 how hgr; have hcv := conv_made how; have HB1 : Hid (Below w.heap.size w w1) := (Below.refl _ w).grown hgr (Nat.le_refl _) (fun k hk => by cases hk); clear how hgr)
  refine (HS.out _).mono ?_
  rintro e w2 ⟨rfl, hb2⟩
  have HB2 := Lib.hid (HB1.out.trans (hb2.mono HB1.out.size))
  clear hb2 hcv HS
  go_wp2_with fail
  refine (alive_true _).mono ?_
  rintro e w3 ⟨rfl, hb3⟩
  have HB3 := Lib.hid (HB2.out.trans (hb3.mono HB2.out.size))
  clear hb3
  go_wp2
  go_ret
  exact ⟨rfl, HB3.out⟩

set_option maxHeartbeats 2000000 in
set_option maxRecDepth 100000 in
theorem bounds_long (id next kind : Int) (n : Nat) (w : World) (hn : n ≤ 400) (h0 : 0 ≤ id) (h1 : id < 4294967296) (h2 : 0 ≤ next) (h3 : next < 4294967296) (h4 : 1 ≤ kind) (h5 : kind ≤ 255) (h : 240 < n) : Calls Tryd.prog 5 #[.int .i64 id, .int .i64 next, .int .i64 kind, .int .i64 n] w fun e w' => e = .returned (.bool true) ∧ Below w.heap.size w w' := by
  obtain ⟨i0, hi0, hz0, hz1, hz2⟩ := info_parts info_u8
  have HS : Hid (∀ w, Calls Tryd.prog 7 #[.int .i64 id, .agg #[.int .i64 kind, .int .i64 next, .string (zeroS n)]] w fun e w' => e = .returned (.tuple #[.string ByteArray.empty, .int .i64 2]) ∧ Below w.heap.size w w') := Lib.hid (fun w => page_seal_long id next kind (zeroS n) w ⟨h0, h1, h2, h3, h4, h5⟩ (by rw [zeroS_size]; exact h) (by rw [zeroS_size]; omega))
  go_enter Tryd.func5, Tryd.ntmps5
  go_wp2_with (refine wpList_make_full _ rfl _ _ _ rfl w.heap.size 5 i0 _ 1 Tryd.underlying28 hi0 hz0 hz1 .i64 .i64 n n n rfl rfl rfl rfl (by rw [hz2]; omega) (by unfold maxLen; omega) (Nat.le_refl _) ?_; intro w1 how hgr; have hcv := conv_made how; have HB1 : Hid (Below w.heap.size w w1) := (Below.refl _ w).grown hgr (Nat.le_refl _) (fun k hk => by cases hk); clear how hgr)
  refine (HS.out _).mono ?_
  rintro e w2 ⟨rfl, hb2⟩
  have HB2 := Lib.hid (HB1.out.trans (hb2.mono HB1.out.size))
  clear hb2 hcv HS
  go_wp2_with fail
  refine (alive_true _).mono ?_
  rintro e w3 ⟨rfl, hb3⟩
  have HB3 := Lib.hid (HB2.out.trans (hb3.mono HB2.out.size))
  clear hb3
  go_wp2
  go_ret
  exact ⟨rfl, HB3.out⟩

set_option maxHeartbeats 2000000 in
set_option maxRecDepth 100000 in
theorem bounds_ok (id next kind : Int) (n : Nat) (w : World) (hn : n ≤ 400) (h0 : 0 ≤ id) (h1 : id < 4294967296) (h2 : 0 ≤ next) (h3 : next < 4294967296) (h4 : 1 ≤ kind) (h5 : kind ≤ 255) (h : n ≤ 240) : Calls Tryd.prog 5 #[.int .i64 id, .int .i64 next, .int .i64 kind, .int .i64 n] w fun e w' => e = .returned (.bool true) ∧ Below w.heap.size w w' := by
  obtain ⟨i0, hi0, hz0, hz1, hz2⟩ := info_parts info_u8
  have HS : Hid (∃ S : ByteArray, S.size = 256 ∧ ∀ w, Calls Tryd.prog 7 #[.int .i64 id, .agg #[.int .i64 kind, .int .i64 next, .string (zeroS n)]] w fun e w' => e = .returned (.tuple #[.string S, .int .i64 0]) ∧ Below w.heap.size w w') := Lib.hid (by
    obtain ⟨a, rfl⟩ := Int.eq_ofNat_of_zero_le h0
    obtain ⟨b, rfl⟩ := Int.eq_ofNat_of_zero_le h2
    obtain ⟨c, rfl⟩ := Int.eq_ofNat_of_zero_le (show 0 ≤ kind by omega)
    exact ⟨sealS a b c (zeroS n), sealS_size _ _ _ _ (by rw [zeroS_size]; exact h), fun w => page_seal a b c (zeroS n) w (by omega) (by omega) (by omega) (by omega) (by rw [zeroS_size]; exact h)⟩)
  obtain ⟨S, hS1, hS2⟩ := HS.out
  have hsz : ((S.size : Int) == 256) = true := by rw [hS1]; rfl
  have HS := Lib.hid hS2
  clear hS1 hS2
  go_enter Tryd.func5, Tryd.ntmps5
  go_wp2_with (refine wpList_make_full _ rfl _ _ _ rfl w.heap.size 5 i0 _ 1 Tryd.underlying28 hi0 hz0 hz1 .i64 .i64 n n n rfl rfl rfl rfl (by rw [hz2]; omega) (by unfold maxLen; omega) (Nat.le_refl _) ?_; intro w1 how hgr; have hcv := conv_made how; have HB1 : Hid (Below w.heap.size w w1) := (Below.refl _ w).grown hgr (Nat.le_refl _) (fun k hk => by cases hk); clear how hgr)
  refine (HS.out _).mono ?_
  rintro e w2 ⟨rfl, hb2⟩
  have HB2 := Lib.hid (HB1.out.trans (hb2.mono HB1.out.size))
  clear hb2 hcv HS
  go_wp2_with fail
  refine (alive_true _).mono ?_
  rintro e w3 ⟨rfl, hb3⟩
  have HB3 := Lib.hid (HB2.out.trans (hb3.mono HB2.out.size))
  clear hb3
  go_wp2
  go_ret
  exact ⟨rfl, HB3.out⟩

theorem pageBounds_walk (id next kind n : Int) (w : World) : Calls Tryd.prog 5 #[.int .i64 id, .int .i64 next, .int .i64 kind, .int .i64 n] w fun e w' => e = .returned (.bool true) ∧ Below w.heap.size w w' := by
  by_cases hn : n < 0 ∨ 400 < n
  · exact bounds_out id next kind n w hn
  obtain ⟨n, rfl⟩ := Int.eq_ofNat_of_zero_le (show 0 ≤ n by omega)
  have hn4 : n ≤ 400 := by omega
  by_cases h0 : id < 0
  · exact bounds_0 id next kind n w hn4  h0
  by_cases h1 : 4294967296 ≤ id
  · exact bounds_1 id next kind n w hn4 (by omega) h1
  by_cases h2 : next < 0
  · exact bounds_2 id next kind n w hn4 (by omega) (by omega) h2
  by_cases h3 : 4294967296 ≤ next
  · exact bounds_3 id next kind n w hn4 (by omega) (by omega) (by omega) h3
  by_cases h4 : kind < 1
  · exact bounds_4 id next kind n w hn4 (by omega) (by omega) (by omega) (by omega) h4
  by_cases h5 : 255 < kind
  · exact bounds_5 id next kind n w hn4 (by omega) (by omega) (by omega) (by omega) (by omega) h5
  by_cases h : 240 < n
  · exact bounds_long id next kind n w hn4 (by omega) (by omega) (by omega) (by omega) (by omega) (by omega) h
  · exact bounds_ok id next kind n w hn4 (by omega) (by omega) (by omega) (by omega) (by omega) (by omega) (by omega)
end Go.Proofs.YtieklgglcjdieaaDoor
