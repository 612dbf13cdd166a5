/- meta: Get. -/
import Derived.Test.YtpoiopjggmhnjaaDoorMeta
namespace Go.Proofs.YtpoiopjggmhnjaaDoor
open Go.RowKit

theorem meta_unfix (m : Mt) (hm : m.ok) (k : Nat) (hk : k < 4) : unfixN (metaS m.l) (k * 6) 6 = HL.el m.l k := by
  have hl : m.l.length = 4 := rfl
  have e : metaL m.l = metaL (m.l.take k) ++ fixL (HL.el m.l k) 6 ++ metaL (m.l.drop (k + 1)) := by
    match k, hk with
    | 0, _ => simp [metaL, Mt.l, HL.el]
    | 1, _ => simp [metaL, Mt.l, HL.el]
    | 2, _ => simp [metaL, Mt.l, HL.el]
    | 3, _ => simp [metaL, Mt.l, HL.el]
  have := unfix_fix (metaL (m.l.take k)) (metaL (m.l.drop (k + 1))) (HL.el m.l k) 6 (by have := hm k hk; omega)
  rw [← e, metaL_length, List.length_take, hl, show min k 4 = k by omega] at this
  exact this

def mtC (Bm : Nat) (m : Mt) (k : Nat) (w : World) : Prop := ∀ i, i < 4 → w.cell? ⟨Bm, i, none⟩ = some (.int .i64 ((if i < k then HL.el m.l i else 0 : Nat) : Int)) ∧ w.frozen? ⟨Bm, i, none⟩ = false

theorem cells4m {w : World} {b : Nat} {u0 u1 u2 u3 v0 v1 v2 v3 : Value} (d0 : w.cell? ⟨b, 0, none⟩ = some u0) (d1 : w.cell? ⟨b, 1, none⟩ = some u1) (d2 : w.cell? ⟨b, 2, none⟩ = some u2) (d3 : w.cell? ⟨b, 3, none⟩ = some u3) :
    ((((w.setCell ⟨b, 0, none⟩ v0).setCell ⟨b, 1, none⟩ v1).setCell ⟨b, 2, none⟩ v2).setCell ⟨b, 3, none⟩ v3).cell? ⟨b, 0, none⟩ = some v0 ∧ ((((w.setCell ⟨b, 0, none⟩ v0).setCell ⟨b, 1, none⟩ v1).setCell ⟨b, 2, none⟩ v2).setCell ⟨b, 3, none⟩ v3).cell? ⟨b, 1, none⟩ = some v1 ∧
      ((((w.setCell ⟨b, 0, none⟩ v0).setCell ⟨b, 1, none⟩ v1).setCell ⟨b, 2, none⟩ v2).setCell ⟨b, 3, none⟩ v3).cell? ⟨b, 2, none⟩ = some v2 ∧ ((((w.setCell ⟨b, 0, none⟩ v0).setCell ⟨b, 1, none⟩ v1).setCell ⟨b, 2, none⟩ v2).setCell ⟨b, 3, none⟩ v3).cell? ⟨b, 3, none⟩ = some v3 := by
  have ne : ∀ (w : World) (i j : Nat) (v : Value), i ≠ j → (w.setCell ⟨b, i, none⟩ v).cell? ⟨b, j, none⟩ = w.cell? ⟨b, j, none⟩ := fun w i j v h => World.cell?_setCell_other _ _ _ _ (by intro e; injection e with _ e _; omega)
  refine ⟨?_, ?_, ?_, ?_⟩
  · rw [ne _ 3 0 _ (by omega), ne _ 2 0 _ (by omega), ne _ 1 0 _ (by omega)]; exact cell_set_same _ _ _ _ d0
  · rw [ne _ 3 1 _ (by omega), ne _ 2 1 _ (by omega)]; exact cell_set_same _ _ _ u1 (by rw [ne _ 0 1 _ (by omega)]; exact d1)
  · rw [ne _ 3 2 _ (by omega)]; exact cell_set_same _ _ _ u2 (by rw [ne _ 1 2 _ (by omega), ne _ 0 2 _ (by omega)]; exact d2)
  · exact cell_set_same _ _ _ u3 (by rw [ne _ 2 3 _ (by omega), ne _ 1 3 _ (by omega), ne _ 0 3 _ (by omega)]; exact d3)

theorem mtC.put {Bm : Nat} {m : Mt} {k : Nat} {w : World} (h : mtC Bm m k w) (hk : k < 4) : mtC Bm m (k + 1) (w.setCell ⟨Bm, k, none⟩ (.int .i64 (HL.el m.l k : Nat))) := fun i hi => by
  refine ⟨?_, by rw [frozen_set]; exact (h i hi).2⟩
  by_cases e : i = k
  · subst e
    rw [cell_set_same _ _ _ _ (h i hi).1, if_pos (by omega)]
  · rw [World.cell?_setCell_other _ _ _ _ (by intro e9; injection e9 with _ e9 _; omega), (h i hi).1]
    by_cases h1 : i < k
    · rw [if_pos h1, if_pos (by omega)]
    · rw [if_neg h1, if_neg (by omega)]

set_option maxHeartbeats 2000000 in
set_option maxRecDepth 100000 in
theorem meta_get (m : Mt) (w : World) (hm : m.ok) : Calls Tryd.prog 11 #[.int .i64 ((m.txn % 2 : Nat) : Int), .string (metaP m)] w fun e w' => e = .returned (.tuple #[mtv m, .int .i64 0]) ∧ Below w.heap.size w w' := by
  obtain ⟨page, hpg⟩ : ∃ p, metaP m = p := ⟨_, rfl⟩
  obtain ⟨body, hbd⟩ : ∃ p, metaS m.l = p := ⟨_, rfl⟩
  have hms : body.size = 24 := by rw [← hbd, metaS_size]; rfl
  have HO : Hid (∀ w, Calls Tryd.prog 30 #[.int .i64 ((m.txn % 2 : Nat) : Int), .string page] w fun e w' => e = .returned (.tuple #[.agg #[.int .i64 1, .int .i64 0, .string body], .int .i64 0]) ∧ Below w.heap.size w w') := Lib.hid (fun w => by
    rw [← hpg, ← hbd]
    exact open_seal (m.txn % 2) 0 1 (metaS m.l) w (by omega) (by omega) (by omega) (by omega) (by rw [metaS_size]; simp [Mt.l]))
  have HMS := Lib.hid hms
  have HUX : Hid (∀ k, k < 4 → ∀ w, Calls Tryd.prog 31 #[.string body, .int .i64 ((k * 6 : Nat) : Int), .int .i64 6] w fun e w' => e = .returned (.tuple #[.int .i64 (HL.el m.l k : Nat), .int .i64 0]) ∧ w' = w) := Lib.hid (fun k hk w => by
    rw [← meta_unfix m hm k hk, hbd]
    exact num_unfix body (k * 6) 6 w (by rw [hms]; omega) (by omega) (by omega) (by omega))
  have HPL := Lib.hid (fun w => meta_place m.txn w (by have := hm 0 (by omega); simp only [Mt.l, HL.el, List.getD_cons_zero] at this; omega))
  rw [hpg]
  clear hm hpg hbd
  go_enter Tryd.func11, Tryd.ntmps11
  go_wp2_with fail
  refine (HO.out _).mono ?_
  rintro e w1 ⟨rfl, hb1⟩
  have HR1 : Hid (∀ i, i < 4 → w1.cell? ⟨w.heap.size, i, none⟩ = some (.int .i64 0) ∧ w1.frozen? ⟨w.heap.size, i, none⟩ = false) := Lib.hid (fun i hi => by
    have hlt : w.heap.size < (w.alloc (.cells #[.int .i64 0, .int .i64 0, .int .i64 0, .int .i64 0] 23)).heap.size := by simp
    have h := heap_alloc_new w (.cells #[.int .i64 0, .int .i64 0, .int .i64 0, .int .i64 0] 23)
    refine ⟨(hb1.cell (p := ⟨w.heap.size, i, none⟩) hlt).trans ?_, (hb1.frozen (p := ⟨w.heap.size, i, none⟩) hlt).trans ?_⟩
    · rw [cell_of_row _ _ _ _ _ _ h]
      match i, hi with
      | 0, _ => rfl
      | 1, _ => rfl
      | 2, _ => rfl
      | 3, _ => rfl
    · unfold World.frozen?
      rw [h]
      simp)
  have HB1 : Hid (Below w.heap.size w w1) := Lib.hid (((Below.refl _ w).alloc (Nat.le_refl _) _).trans (hb1.mono (by simp)))
  have HZ1 : Hid (w.heap.size < w1.heap.size) := Lib.hid (by have := hb1.size; simp at this; omega)
  clear hb1
  go_wp2
  have hF0 : Fr (fun _ => False) w1 (((w1.alloc (.cells #[.int .i64 1, .int .i64 0, .string body] 54)).alloc (.cells #[.int .i64 0, .int .i64 0, .int .i64 0, .int .i64 0] 23)).alloc (.cells #[.pointer (some ⟨w1.heap.size + 1, 0, none⟩), .pointer (some ⟨w1.heap.size + 1, 1, none⟩), .pointer (some ⟨w1.heap.size + 1, 2, none⟩), .pointer (some ⟨w1.heap.size + 1, 3, none⟩)] 57)) := (((Fr.refl _ w1).alloc _).alloc _).alloc _
  have hz0 : (((w1.alloc (.cells #[.int .i64 1, .int .i64 0, .string body] 54)).alloc (.cells #[.int .i64 0, .int .i64 0, .int .i64 0, .int .i64 0] 23)).alloc (.cells #[.pointer (some ⟨w1.heap.size + 1, 0, none⟩), .pointer (some ⟨w1.heap.size + 1, 1, none⟩), .pointer (some ⟨w1.heap.size + 1, 2, none⟩), .pointer (some ⟨w1.heap.size + 1, 3, none⟩)] 57)).heap.size = w1.heap.size + 3 := by simp
  have hpc : ∀ k, k < 4 → (((w1.alloc (.cells #[.int .i64 1, .int .i64 0, .string body] 54)).alloc (.cells #[.int .i64 0, .int .i64 0, .int .i64 0, .int .i64 0] 23)).alloc (.cells #[.pointer (some ⟨w1.heap.size + 1, 0, none⟩), .pointer (some ⟨w1.heap.size + 1, 1, none⟩), .pointer (some ⟨w1.heap.size + 1, 2, none⟩), .pointer (some ⟨w1.heap.size + 1, 3, none⟩)] 57)).cell? ⟨w1.heap.size + 1 + 1, k, none⟩ = some (.pointer (some ⟨w1.heap.size + 1, k, none⟩)) := by
    intro k hk
    match k, hk with
    | 0, _ => go_simp
    | 1, _ => go_simp
    | 2, _ => go_simp
    | 3, _ => go_simp
  have hbc : (((w1.alloc (.cells #[.int .i64 1, .int .i64 0, .string body] 54)).alloc (.cells #[.int .i64 0, .int .i64 0, .int .i64 0, .int .i64 0] 23)).alloc (.cells #[.pointer (some ⟨w1.heap.size + 1, 0, none⟩), .pointer (some ⟨w1.heap.size + 1, 1, none⟩), .pointer (some ⟨w1.heap.size + 1, 2, none⟩), .pointer (some ⟨w1.heap.size + 1, 3, none⟩)] 57)).cell? ⟨w1.heap.size, 2, none⟩ = some (.string body) := by clear hpc; go_simp
  have hmc : mtC (w1.heap.size + 1) m 0 (((w1.alloc (.cells #[.int .i64 1, .int .i64 0, .string body] 54)).alloc (.cells #[.int .i64 0, .int .i64 0, .int .i64 0, .int .i64 0] 23)).alloc (.cells #[.pointer (some ⟨w1.heap.size + 1, 0, none⟩), .pointer (some ⟨w1.heap.size + 1, 1, none⟩), .pointer (some ⟨w1.heap.size + 1, 2, none⟩), .pointer (some ⟨w1.heap.size + 1, 3, none⟩)] 57)) := by
    clear hpc hbc
    intro k hk
    match k, hk with
    | 0, _ => exact ⟨by go_simp, by go_simp⟩
    | 1, _ => exact ⟨by go_simp, by go_simp⟩
    | 2, _ => exact ⟨by go_simp, by go_simp⟩
    | 3, _ => exact ⟨by go_simp, by go_simp⟩
  generalize (((w1.alloc (.cells #[.int .i64 1, .int .i64 0, .string body] 54)).alloc (.cells #[.int .i64 0, .int .i64 0, .int .i64 0, .int .i64 0] 23)).alloc (.cells #[.pointer (some ⟨w1.heap.size + 1, 0, none⟩), .pointer (some ⟨w1.heap.size + 1, 1, none⟩), .pointer (some ⟨w1.heap.size + 1, 2, none⟩), .pointer (some ⟨w1.heap.size + 1, 3, none⟩)] 57)) = W0 at *
  have HF0 := Lib.hid hF0
  have HZ0 := Lib.hid hz0
  have HPC := Lib.hid hpc
  have HBC := Lib.hid hbc
  have HMC := Lib.hid hmc
  clear hF0 hz0 hpc hbc hmc hms
  go_loopw [42] (fun i wr => ∃ k : Nat, k ≤ 4 ∧ i = .int .i64 k ∧ Hid (mtC (w1.heap.size + 1) m k wr ∧ Fr (fun b => b = w1.heap.size + 1) W0 wr)) (fun i _ => 4 - (intOf i).toNat)
  case atStart => exact ⟨0, Nat.zero_le _, rfl, Lib.hid ⟨HMC.out, Fr.refl _ _⟩⟩
  case round =>
    obtain ⟨k, hk, rfl, hrel⟩ := hrel
    by_cases hk4 : k < 4
    · have hx := (hrel.out.2.cell (p := ⟨w1.heap.size + 1 + 1, k, none⟩) (by have := HZ0.out; show w1.heap.size + 1 + 1 < _; omega) (by show ¬ w1.heap.size + 1 + 1 = w1.heap.size + 1; omega)).trans (HPC.out k hk4)
      have hy := (hrel.out.2.cell (p := ⟨w1.heap.size, 2, none⟩) (by have := HZ0.out; show w1.heap.size < _; omega) (by show ¬ w1.heap.size = w1.heap.size + 1; omega)).trans HBC.out
      obtain ⟨hc, hf⟩ := hrel.out.1 k hk4
      have HU := Lib.hid (HUX.out k hk4)
      rw [show ((k * 6 : Nat) : Int) = (k : Int) * 6 by omega] at HU
      have HR2 : Hid (mtC (w1.heap.size + 1) m (k + 1) (wr.setCell ⟨w1.heap.size + 1, k, none⟩ (.int .i64 (HL.el m.l k : Nat))) ∧ Fr (fun b => b = w1.heap.size + 1) W0 (wr.setCell ⟨w1.heap.size + 1, k, none⟩ (.int .i64 (HL.el m.l k : Nat)))) := Lib.hid ⟨hrel.out.1.put hk4, hrel.out.2.setCell (p := ⟨w1.heap.size + 1, k, none⟩) (fun _ => rfl) _⟩
      have hsz : w1.heap.size + 1 < wr.heap.size := by have h1 := HZ0.out; have h2 := hrel.out.2.size; omega
      clear hrel
      generalize HL.el m.l k = v at *
      go_wp2_with fail
      refine (HU.out _).mono ?_
      rintro e w2 ⟨rfl, rfl⟩
      go_wp2
      go_roundw
      case rel => exact ⟨k + 1, by omega, by go_num, HR2⟩
      case measure => simp [intOf]; omega
    · obtain rfl : k = 4 := by omega
      obtain ⟨q0, -⟩ := hrel.out.1 0 (by omega)
      obtain ⟨q1, -⟩ := hrel.out.1 1 (by omega)
      obtain ⟨q2, -⟩ := hrel.out.1 2 (by omega)
      obtain ⟨q3, -⟩ := hrel.out.1 3 (by omega)
      have q0' : wr.cell? ⟨w1.heap.size + 1, 0, none⟩ = some (.int .i64 m.txn) := q0
      have q1' : wr.cell? ⟨w1.heap.size + 1, 1, none⟩ = some (.int .i64 m.root) := q1
      have q2' : wr.cell? ⟨w1.heap.size + 1, 2, none⟩ = some (.int .i64 m.free) := q2
      have q3' : wr.cell? ⟨w1.heap.size + 1, 3, none⟩ = some (.int .i64 m.pages) := q3
      have hfr : Fr (fun b => b = w1.heap.size + 1) w1 wr := Fr.trans (HF0.out.mono (fun _ _ h => h.elim)) hrel.out.2 (fun _ h _ => h)
      have hrr := fun i (hi : i < 4) => And.intro ((hfr.cell (p := ⟨w.heap.size, i, none⟩) HZ1.out (by have := HZ1.out; show ¬ w.heap.size = w1.heap.size + 1; omega)).trans (HR1.out i hi).1) ((hfr.frozen (p := ⟨w.heap.size, i, none⟩) HZ1.out (by have := HZ1.out; show ¬ w.heap.size = w1.heap.size + 1; omega)).trans (HR1.out i hi).2)
      obtain ⟨r0, s0⟩ := hrr 0 (by omega)
      obtain ⟨r1, s1⟩ := hrr 1 (by omega)
      obtain ⟨r2, s2⟩ := hrr 2 (by omega)
      obtain ⟨r3, s3⟩ := hrr 3 (by omega)
      have HFW : Hid (Below w.heap.size w wr) := Lib.hid (HB1.out.trans (hfr.below (by have := HZ1.out; omega) (fun i hi => by have : i = w1.heap.size + 1 := hi; have := HZ1.out; omega)))
      have hz9 : w.heap.size < wr.heap.size := by have := hfr.size; have := HZ1.out; omega
      clear q0 q1 q2 q3 hrel hrr hfr
      go_wp2_with fail
      refine (HPL.out _).mono ?_
      rintro e w2 ⟨rfl, rfl⟩
      go_wp2
      obtain ⟨x0, x1, x2, x3⟩ := cells4m (v0 := .int .i64 m.txn) (v1 := .int .i64 m.root) (v2 := .int .i64 m.free) (v3 := .int .i64 m.pages) r0 r1 r2 r3
      exact bodyPost_ret (v := .tuple #[mtv m, .int .i64 0]) (by simp [results, Tryd.results11, go_sem, mtv, x0, x1, x2, x3]) rfl ⟨rfl, (((HFW.out.setCell (p := ⟨w.heap.size, 0, none⟩) (Nat.le_refl _) _).setCell (p := ⟨w.heap.size, 1, none⟩) (Nat.le_refl _) _).setCell (p := ⟨w.heap.size, 2, none⟩) (Nat.le_refl _) _).setCell (p := ⟨w.heap.size, 3, none⟩) (Nat.le_refl _) _⟩

set_option maxHeartbeats 1000000 in
set_option maxRecDepth 100000 in
/-- Get of a page that is not opened. -/
theorem meta_get_err (at' k : Int) (b : ByteArray) (hk : k ≠ 0) (HO : Hid (∀ w, Calls Tryd.prog 30 #[.int .i64 at', .string b] w fun e w' => e = .returned (.tuple #[pv 0 0 ByteArray.empty, .int .i64 k]) ∧ Below w.heap.size w w')) (w : World) :
    Calls Tryd.prog 11 #[.int .i64 at', .string b] w fun e w' => e = .returned (.tuple #[mtv ⟨0, 0, 0, 0⟩, .int .i64 k]) ∧ Below w.heap.size w w' := by
  have hne : (k != 0) = true := by rw [bne_iff_ne]; exact hk
  go_enter Tryd.func11, Tryd.ntmps11
  go_wp2_with fail
  refine (HO.out _).mono ?_
  rintro e w1 ⟨rfl, hb1⟩
  have hr : ∀ i, i < 4 → w1.cell? ⟨w.heap.size, i, none⟩ = some (.int .i64 0) ∧ w1.frozen? ⟨w.heap.size, i, none⟩ = false := fun i hi => by
    have hlt : w.heap.size < (w.alloc (.cells #[.int .i64 0, .int .i64 0, .int .i64 0, .int .i64 0] 23)).heap.size := by simp
    have h := heap_alloc_new w (.cells #[.int .i64 0, .int .i64 0, .int .i64 0, .int .i64 0] 23)
    refine ⟨(hb1.cell (p := ⟨w.heap.size, i, none⟩) hlt).trans ?_, (hb1.frozen (p := ⟨w.heap.size, i, none⟩) hlt).trans ?_⟩
    · rw [cell_of_row _ _ _ _ _ _ h]
      match i, hi with
      | 0, _ => rfl
      | 1, _ => rfl
      | 2, _ => rfl
      | 3, _ => rfl
    · unfold World.frozen?
      rw [h]
      simp
  have HB1 : Hid (Below w.heap.size w w1) := Lib.hid (((Below.refl _ w).alloc (Nat.le_refl _) _).trans (hb1.mono (by simp)))
  have hz1 : w.heap.size < w1.heap.size := by have := hb1.size; simp at this; omega
  obtain ⟨r0, s0⟩ := hr 0 (by omega)
  obtain ⟨r1, s1⟩ := hr 1 (by omega)
  obtain ⟨r2, s2⟩ := hr 2 (by omega)
  obtain ⟨r3, s3⟩ := hr 3 (by omega)
  clear hr hb1 hk
  unfold pv
  go_wp2
  obtain ⟨x0, x1, x2, x3⟩ := cells4m (v0 := .int .i64 0) (v1 := .int .i64 0) (v2 := .int .i64 0) (v3 := .int .i64 0) r0 r1 r2 r3
  refine bodyPost_ret (v := .tuple #[mtv ⟨0, 0, 0, 0⟩, .int .i64 k]) (by simp [results, Tryd.results11, go_sem, mtv, x0, x1, x2, x3, hz1]) rfl ⟨rfl, ?_⟩
  exact ((((HB1.out.setCell (p := ⟨w.heap.size, 0, none⟩) (Nat.le_refl _) _).setCell (p := ⟨w.heap.size, 1, none⟩) (Nat.le_refl _) _).setCell (p := ⟨w.heap.size, 2, none⟩) (Nat.le_refl _) _).setCell (p := ⟨w.heap.size, 3, none⟩) (Nat.le_refl _) _).alloc (by simp [World.setCell]; exact HB1.out.size) _
end Go.Proofs.YtpoiopjggmhnjaaDoor
