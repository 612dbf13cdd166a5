/- arboretumref1.Seal, of what is no page; arboretumref1.Open. -/
import Derived.Test.YtpoiopjggmhnjaaDoorRSeal
import Derived.Test.YtpoiopjggmhnjaaDoorPAlive
import Derived.Deep.RegionHeld3
namespace Go.Proofs.YtpoiopjggmhnjaaDoor
open Go.RowKit
attribute [local go_sem ↓] Go.wp_at_zero Go.wp_at_succ

set_option maxHeartbeats 1000000 in
set_option maxRecDepth 100000 in
theorem ref_seal_bad (id next kind : Int) (body : ByteArray) (w : World) (h : ¬ sealOK id next kind) :
    Calls Tryd.prog 29 #[.int .i64 id, .agg #[.int .i64 kind, .int .i64 next, .string body]] w fun e w' => e = .returned (.tuple #[.string ByteArray.empty, .int .i64 1]) ∧ Below w.heap.size w w' := by
  unfold sealOK at h
  have hb : (decide (id < 0) || decide (4294967295 < id) || decide (next < 0) || decide (4294967295 < next) || decide (kind < 1) || decide (255 < kind)) = true := by
    simp only [Bool.or_eq_true, decide_eq_true_eq]
    omega
  by_cases g1 : id < 0
  · go_enter Tryd.func29, Tryd.ntmps29
    go_wp2
    go_ret2
    exact ⟨rfl, (Below.refl _ w).alloc (Nat.le_refl _) _⟩
  by_cases g2 : 4294967295 < id
  · go_enter Tryd.func29, Tryd.ntmps29
    go_wp2
    go_ret2
    exact ⟨rfl, (Below.refl _ w).alloc (Nat.le_refl _) _⟩
  by_cases g3 : next < 0
  · go_enter Tryd.func29, Tryd.ntmps29
    go_wp2
    go_ret2
    exact ⟨rfl, (Below.refl _ w).alloc (Nat.le_refl _) _⟩
  by_cases g4 : 4294967295 < next
  · go_enter Tryd.func29, Tryd.ntmps29
    go_wp2
    go_ret2
    exact ⟨rfl, (Below.refl _ w).alloc (Nat.le_refl _) _⟩
  by_cases g5 : kind < 1
  · go_enter Tryd.func29, Tryd.ntmps29
    go_wp2
    go_ret2
    exact ⟨rfl, (Below.refl _ w).alloc (Nat.le_refl _) _⟩
  by_cases g6 : 255 < kind
  · go_enter Tryd.func29, Tryd.ntmps29
    go_wp2
    go_ret2
    exact ⟨rfl, (Below.refl _ w).alloc (Nat.le_refl _) _⟩
  exact absurd (by omega) h

set_option maxHeartbeats 1000000 in
set_option maxRecDepth 100000 in
theorem ref_seal_long (id next kind : Int) (body : ByteArray) (w : World) (h : sealOK id next kind) (hb : 240 < body.size) (hb2 : body.size ≤ 1000000) :
    Calls Tryd.prog 29 #[.int .i64 id, .agg #[.int .i64 kind, .int .i64 next, .string body]] w fun e w' => e = .returned (.tuple #[.string ByteArray.empty, .int .i64 2]) ∧ Below w.heap.size w w' := by
  obtain ⟨h1, h2, h3, h4, h5, h6⟩ := h
  have a0 : ¬ id < 0 := by omega
  have a1 : ¬ ((4294967295 : Int) < id) := by omega
  have b0 : ¬ next < 0 := by omega
  have a2 : ¬ ((4294967295 : Int) < next) := by omega
  have a3 : ¬ (kind < 1) := by omega
  have a4 : ¬ ((255 : Int) < kind) := by omega
  have a5 : (240 : Int) < (body.size : Int) := by omega
  clear h1 h2 h3 h4 h5 h6
  go_enter Tryd.func29, Tryd.ntmps29
  go_wp2
  go_ret2
  exact ⟨rfl, (Below.refl _ w).alloc (Nat.le_refl _) _⟩

theorem fix_unfix (b : ByteArray) (at' n : Nat) (h : at' + n ≤ b.size) : fixS (unfixN b at' n) n = b.extract at' (at' + n) := by
  apply ByteArray.ext
  apply Array.ext
  · rw [ByteArray.data_extract, Array.size_extract]
    have : b.data.size = b.size := rfl
    show (fixL _ _).toArray.size = _
    rw [List.size_toArray, fixL_length]
    omega
  · intro i h1 h2
    have hi : i < n := by
      have e : (fixS (unfixN b at' n) n).data.size = n := fixS_size _ _
      omega
    have e1 : (fixS (unfixN b at' n) n).data[i] = UInt8.ofNat (unfixN b at' n / 2 ^ (8 * i) % 256) := by
      simp [fixS, fixL]
    rw [e1, unfix_byte b at' n i hi]
    simp only [ByteArray.data_extract, Array.getElem_extract]
    unfold byteAt
    rw [Array.getD_eq_getD_getElem?, Array.getElem?_eq_getElem (by have : b.data.size = b.size := rfl; omega)]
    simp
theorem fix_inj (u v n : Nat) (hu : u < 2 ^ (8 * n)) (hv : v < 2 ^ (8 * n)) (h : fixS u n = fixS v n) : u = v := by
  have e1 := unfix_fix [] [] u n hu
  have e2 := unfix_fix [] [] v n hv
  simp only [List.nil_append, List.append_nil] at e1 e2
  have h2 : (⟨(fixL u n).toArray⟩ : ByteArray) = ⟨(fixL v n).toArray⟩ := h
  rw [h2] at e1
  exact e1.symm.trans e2
end Go.Proofs.YtpoiopjggmhnjaaDoor
