/- Merged texts: MBoth MGetB MGetR MPutR MBothT. -/
import Derived.Test.YtpoiopjggmhnjaaDoorROpenR
import Derived.Test.YtpoiopjggmhnjaaDoorMPutB
import Derived.Test.YtpoiopjggmhnjaaDoorMAlive
import Derived.Test.YtpoiopjggmhnjaaDoorGApp
/- meta and arboretumref1: what both opens answer; Place of both. -/
namespace Go.Proofs.YtpoiopjggmhnjaaDoor
open Go.RowKit

def openA (id : Int) (b : ByteArray) : Value := if b.size = 256 then openV id b else .tuple #[pv 0 0 ByteArray.empty, .int .i64 5]
theorem openA_form (id : Int) (b : ByteArray) : ∃ k nx bd c, openA id b = .tuple #[.agg #[.int .i64 k, .int .i64 nx, .string bd], .int .i64 c] := by
  unfold openA openV pv
  split
  · split
    · split
      · exact ⟨_, _, _, _, rfl⟩
      · exact ⟨_, _, _, _, rfl⟩
    · exact ⟨_, _, _, _, rfl⟩
  · exact ⟨_, _, _, _, rfl⟩
theorem ref_open_any (id : Int) (b : ByteArray) (w : World) : Calls Tryd.prog 32 #[.int .i64 id, .string b] w fun e w' => e = .returned (openA id b) ∧ Below w.heap.size w w' := by
  unfold openA
  by_cases h : b.size = 256
  · rw [if_pos h]; exact ref_open_long id b w h
  · rw [if_neg h]; exact ref_open_short id b w h
theorem page_open_any (id : Int) (b : ByteArray) (w : World) : Calls Tryd.prog 30 #[.int .i64 id, .string b] w fun e w' => e = .returned (openA id b) ∧ Below w.heap.size w w' := by
  unfold openA
  by_cases h : b.size = 256
  · rw [if_pos h]
    unfold openV
    by_cases hc : unfixN b 252 4 = crcS (b.extract 0 252)
    · rw [if_pos hc]
      by_cases hf : formOK id b = true
      · rw [if_pos hf]; exact page_open_ok id b w h hc hf
      · rw [if_neg hf]; exact page_open_form id b w h hc (by simpa using hf)
    · rw [if_neg hc]; exact page_open_sum id b w h hc
  · rw [if_neg h]; exact page_open_short id b w h


theorem openA_cases (id : Int) (b : ByteArray) : (∃ c : Int, c ≠ 0 ∧ openA id b = .tuple #[pv 0 0 ByteArray.empty, .int .i64 c]) ∨ ∃ k nx bd, openA id b = .tuple #[pv k nx bd, .int .i64 0] := by
  unfold openA openV
  split
  · split
    · split
      · exact .inr ⟨_, _, _, rfl⟩
      · exact .inl ⟨4, by omega, rfl⟩
    · exact .inl ⟨6, by omega, rfl⟩
  · exact .inl ⟨5, by omega, rfl⟩

set_option maxRecDepth 100000 in
theorem meta_place_any (t : Int) (w : World) : Calls Tryd.prog 9 #[.int .i64 t] w fun e w' => e = .returned (.int .i64 (t % 2)) ∧ w' = w := by
  have hb := i64_and1 t
  go_enter Tryd.func9, Tryd.ntmps9
  go_wp2
  go_ret
  exact ⟨rfl, rfl⟩

set_option maxRecDepth 100000 in
theorem ref_place (t : Int) (w : World) : Calls Tryd.prog 10 #[.int .i64 t] w fun e w' => e = .returned (.int .i64 (t % 2)) ∧ w' = w := by
  have h : (t.tmod 2 < 0 ∧ t.tmod 2 = -1 ∧ t % 2 = 1) ∨ (¬ t.tmod 2 < 0 ∧ t.tmod 2 = t % 2) := by
    rcases Int.lt_or_le t 0 with h | h
    · have e := Int.neg_tmod (-t) 2
      have e2 : (-t).tmod 2 = (-t) % 2 := Int.tmod_eq_emod_of_nonneg (by omega)
      rw [Int.neg_neg, e2] at e
      omega
    · rw [Int.tmod_eq_emod_of_nonneg h]
      omega
  obtain ⟨k, hk⟩ : ∃ k, k = t.tmod 2 := ⟨_, rfl⟩
  obtain ⟨r, hr⟩ : ∃ r, r = t % 2 := ⟨_, rfl⟩
  rw [← hr]
  rw [← hk, ← hr] at h
  have hkk : (t.tmod 2) = k := hk.symm
  rcases h with ⟨h1, h2, h3⟩ | ⟨h1, h2⟩
  · subst h2 h3
    clear hk hr
    go_enter Tryd.func10, Tryd.ntmps10
    go_wp2
    go_ret
    exact ⟨rfl, rfl⟩
  · subst h2
    clear hk hr
    go_enter Tryd.func10, Tryd.ntmps10
    go_wp2
    go_ret
    exact ⟨rfl, rfl⟩
end Go.Proofs.YtpoiopjggmhnjaaDoor

/- meta: Get of any page. -/
namespace Go.Proofs.YtpoiopjggmhnjaaDoor
open Go.RowKit

set_option maxHeartbeats 2000000 in
set_option maxRecDepth 100000 in
theorem meta_get_body (m : Mt) (hm : m.ok) (at' : Int) (page body : ByteArray) (hms : body.size = 24) (ho : ∀ w, Calls Tryd.prog 30 #[.int .i64 at', .string page] w fun e w' => e = .returned (.tuple #[.agg #[.int .i64 1, .int .i64 0, .string body], .int .i64 0]) ∧ Below w.heap.size w w') (hu : ∀ k, k < 4 → unfixN body (k * 6) 6 = HL.el m.l k) (hat : at' = ((m.txn % 2 : Nat) : Int)) (w : World) :
    Calls Tryd.prog 11 #[.int .i64 at', .string page] w fun e w' => e = .returned (.tuple #[mtv m, .int .i64 0]) ∧ Below w.heap.size w w' := by
  subst hat
  have HO := Lib.hid ho
  have HMS := Lib.hid hms
  have HUX : Hid (∀ k, k < 4 → ∀ w, Calls Tryd.prog 31 #[.string body, .int .i64 ((k * 6 : Nat) : Int), .int .i64 6] w fun e w' => e = .returned (.tuple #[.int .i64 (HL.el m.l k : Nat), .int .i64 0]) ∧ w' = w) := Lib.hid (fun k hk w => by
    rw [← hu k hk]
    exact num_unfix body (k * 6) 6 w (by rw [hms]; omega) (by omega) (by omega) (by omega))
  have HPL := Lib.hid (fun w => meta_place m.txn w (by have := hm 0 (by omega); simp only [Mt.l, HL.el, List.getD_cons_zero] at this; omega))
  clear hm ho hu
  go_enter Tryd.func11, Tryd.ntmps11
  go_wp2_with fail
  refine (HO.out _).mono ?_
  rintro e w1 ⟨rfl, hb1⟩
  have HR1 : Hid (∀ i, i < 4 → w1.cell? ⟨w.heap.size, i, none⟩ = some (.int .i64 0) ∧ w1.frozen? ⟨w.heap.size, i, none⟩ = false) := Lib.hid (fun i hi => by
    have hlt : w.heap.size < (w.alloc (.cells #[.int .i64 0, .int .i64 0, .int .i64 0, .int .i64 0] 23)).heap.size := by simp
    have h := heap_alloc_new w (.cells #[.int .i64 0, .int .i64 0, .int .i64 0, .int .i64 0] 23)
    refine ⟨(hb1.cell (p := ⟨w.heap.size, i, none⟩) hlt).trans ?_, (hb1.frozen (p := ⟨w.heap.size, i, none⟩) hlt).trans ?_⟩
    · rw [cell_of_row _ _ _ _ _ _ h]
      match i, hi with
      | 0, _ => rfl
      | 1, _ => rfl
      | 2, _ => rfl
      | 3, _ => rfl
    · unfold World.frozen?
      rw [h]
      simp)
  have HB1 : Hid (Below w.heap.size w w1) := Lib.hid (((Below.refl _ w).alloc (Nat.le_refl _) _).trans (hb1.mono (by simp)))
  have HZ1 : Hid (w.heap.size < w1.heap.size) := Lib.hid (by have := hb1.size; simp at this; omega)
  clear hb1
  go_wp2
  have hF0 : Fr (fun _ => False) w1 (((w1.alloc (.cells #[.int .i64 1, .int .i64 0, .string body] 54)).alloc (.cells #[.int .i64 0, .int .i64 0, .int .i64 0, .int .i64 0] 23)).alloc (.cells #[.pointer (some ⟨w1.heap.size + 1, 0, none⟩), .pointer (some ⟨w1.heap.size + 1, 1, none⟩), .pointer (some ⟨w1.heap.size + 1, 2, none⟩), .pointer (some ⟨w1.heap.size + 1, 3, none⟩)] 57)) := (((Fr.refl _ w1).alloc _).alloc _).alloc _
  have hz0 : (((w1.alloc (.cells #[.int .i64 1, .int .i64 0, .string body] 54)).alloc (.cells #[.int .i64 0, .int .i64 0, .int .i64 0, .int .i64 0] 23)).alloc (.cells #[.pointer (some ⟨w1.heap.size + 1, 0, none⟩), .pointer (some ⟨w1.heap.size + 1, 1, none⟩), .pointer (some ⟨w1.heap.size + 1, 2, none⟩), .pointer (some ⟨w1.heap.size + 1, 3, none⟩)] 57)).heap.size = w1.heap.size + 3 := by simp
  have hpc : ∀ k, k < 4 → (((w1.alloc (.cells #[.int .i64 1, .int .i64 0, .string body] 54)).alloc (.cells #[.int .i64 0, .int .i64 0, .int .i64 0, .int .i64 0] 23)).alloc (.cells #[.pointer (some ⟨w1.heap.size + 1, 0, none⟩), .pointer (some ⟨w1.heap.size + 1, 1, none⟩), .pointer (some ⟨w1.heap.size + 1, 2, none⟩), .pointer (some ⟨w1.heap.size + 1, 3, none⟩)] 57)).cell? ⟨w1.heap.size + 1 + 1, k, none⟩ = some (.pointer (some ⟨w1.heap.size + 1, k, none⟩)) := by
    intro k hk
    match k, hk with
    | 0, _ => go_simp
    | 1, _ => go_simp
    | 2, _ => go_simp
    | 3, _ => go_simp
  have hbc : (((w1.alloc (.cells #[.int .i64 1, .int .i64 0, .string body] 54)).alloc (.cells #[.int .i64 0, .int .i64 0, .int .i64 0, .int .i64 0] 23)).alloc (.cells #[.pointer (some ⟨w1.heap.size + 1, 0, none⟩), .pointer (some ⟨w1.heap.size + 1, 1, none⟩), .pointer (some ⟨w1.heap.size + 1, 2, none⟩), .pointer (some ⟨w1.heap.size + 1, 3, none⟩)] 57)).cell? ⟨w1.heap.size, 2, none⟩ = some (.string body) := by clear hpc; go_simp
  have hmc : mtC (w1.heap.size + 1) m 0 (((w1.alloc (.cells #[.int .i64 1, .int .i64 0, .string body] 54)).alloc (.cells #[.int .i64 0, .int .i64 0, .int .i64 0, .int .i64 0] 23)).alloc (.cells #[.pointer (some ⟨w1.heap.size + 1, 0, none⟩), .pointer (some ⟨w1.heap.size + 1, 1, none⟩), .pointer (some ⟨w1.heap.size + 1, 2, none⟩), .pointer (some ⟨w1.heap.size + 1, 3, none⟩)] 57)) := by
    clear hpc hbc
    intro k hk
    match k, hk with
    | 0, _ => exact ⟨by go_simp, by go_simp⟩
    | 1, _ => exact ⟨by go_simp, by go_simp⟩
    | 2, _ => exact ⟨by go_simp, by go_simp⟩
    | 3, _ => exact ⟨by go_simp, by go_simp⟩
  generalize (((w1.alloc (.cells #[.int .i64 1, .int .i64 0, .string body] 54)).alloc (.cells #[.int .i64 0, .int .i64 0, .int .i64 0, .int .i64 0] 23)).alloc (.cells #[.pointer (some ⟨w1.heap.size + 1, 0, none⟩), .pointer (some ⟨w1.heap.size + 1, 1, none⟩), .pointer (some ⟨w1.heap.size + 1, 2, none⟩), .pointer (some ⟨w1.heap.size + 1, 3, none⟩)] 57)) = W0 at *
  have HF0 := Lib.hid hF0
  have HZ0 := Lib.hid hz0
  have HPC := Lib.hid hpc
  have HBC := Lib.hid hbc
  have HMC := Lib.hid hmc
  clear hF0 hz0 hpc hbc hmc hms
  go_loopw [42] (fun i wr => ∃ k : Nat, k ≤ 4 ∧ i = .int .i64 k ∧ Hid (mtC (w1.heap.size + 1) m k wr ∧ Fr (fun b => b = w1.heap.size + 1) W0 wr)) (fun i _ => 4 - (intOf i).toNat)
  case atStart => exact ⟨0, Nat.zero_le _, rfl, Lib.hid ⟨HMC.out, Fr.refl _ _⟩⟩
  case round =>
    obtain ⟨k, hk, rfl, hrel⟩ := hrel
    by_cases hk4 : k < 4
    · have hx := (hrel.out.2.cell (p := ⟨w1.heap.size + 1 + 1, k, none⟩) (by have := HZ0.out; show w1.heap.size + 1 + 1 < _; omega) (by show ¬ w1.heap.size + 1 + 1 = w1.heap.size + 1; omega)).trans (HPC.out k hk4)
      have hy := (hrel.out.2.cell (p := ⟨w1.heap.size, 2, none⟩) (by have := HZ0.out; show w1.heap.size < _; omega) (by show ¬ w1.heap.size = w1.heap.size + 1; omega)).trans HBC.out
      obtain ⟨hc, hf⟩ := hrel.out.1 k hk4
      have HU := Lib.hid (HUX.out k hk4)
      rw [show ((k * 6 : Nat) : Int) = (k : Int) * 6 by omega] at HU
      have HR2 : Hid (mtC (w1.heap.size + 1) m (k + 1) (wr.setCell ⟨w1.heap.size + 1, k, none⟩ (.int .i64 (HL.el m.l k : Nat))) ∧ Fr (fun b => b = w1.heap.size + 1) W0 (wr.setCell ⟨w1.heap.size + 1, k, none⟩ (.int .i64 (HL.el m.l k : Nat)))) := Lib.hid ⟨hrel.out.1.put hk4, hrel.out.2.setCell (p := ⟨w1.heap.size + 1, k, none⟩) (fun _ => rfl) _⟩
      have hsz : w1.heap.size + 1 < wr.heap.size := by have h1 := HZ0.out; have h2 := hrel.out.2.size; omega
      clear hrel
      generalize HL.el m.l k = v at *
      go_wp2_with fail
      refine (HU.out _).mono ?_
      rintro e w2 ⟨rfl, rfl⟩
      go_wp2
      go_roundw
      case rel => exact ⟨k + 1, by omega, by go_num, HR2⟩
      case measure => simp [intOf]; omega
    · obtain rfl : k = 4 := by omega
      obtain ⟨q0, -⟩ := hrel.out.1 0 (by omega)
      obtain ⟨q1, -⟩ := hrel.out.1 1 (by omega)
      obtain ⟨q2, -⟩ := hrel.out.1 2 (by omega)
      obtain ⟨q3, -⟩ := hrel.out.1 3 (by omega)
      have q0' : wr.cell? ⟨w1.heap.size + 1, 0, none⟩ = some (.int .i64 m.txn) := q0
      have q1' : wr.cell? ⟨w1.heap.size + 1, 1, none⟩ = some (.int .i64 m.root) := q1
      have q2' : wr.cell? ⟨w1.heap.size + 1, 2, none⟩ = some (.int .i64 m.free) := q2
      have q3' : wr.cell? ⟨w1.heap.size + 1, 3, none⟩ = some (.int .i64 m.pages) := q3
      have hfr : Fr (fun b => b = w1.heap.size + 1) w1 wr := Fr.trans (HF0.out.mono (fun _ _ h => h.elim)) hrel.out.2 (fun _ h _ => h)
      have hrr := fun i (hi : i < 4) => And.intro ((hfr.cell (p := ⟨w.heap.size, i, none⟩) HZ1.out (by have := HZ1.out; show ¬ w.heap.size = w1.heap.size + 1; omega)).trans (HR1.out i hi).1) ((hfr.frozen (p := ⟨w.heap.size, i, none⟩) HZ1.out (by have := HZ1.out; show ¬ w.heap.size = w1.heap.size + 1; omega)).trans (HR1.out i hi).2)
      obtain ⟨r0, s0⟩ := hrr 0 (by omega)
      obtain ⟨r1, s1⟩ := hrr 1 (by omega)
      obtain ⟨r2, s2⟩ := hrr 2 (by omega)
      obtain ⟨r3, s3⟩ := hrr 3 (by omega)
      have HFW : Hid (Below w.heap.size w wr) := Lib.hid (HB1.out.trans (hfr.below (by have := HZ1.out; omega) (fun i hi => by have : i = w1.heap.size + 1 := hi; have := HZ1.out; omega)))
      have hz9 : w.heap.size < wr.heap.size := by have := hfr.size; have := HZ1.out; omega
      clear q0 q1 q2 q3 hrel hrr hfr
      go_wp2_with fail
      refine (HPL.out _).mono ?_
      rintro e w2 ⟨rfl, rfl⟩
      go_wp2
      obtain ⟨x0, x1, x2, x3⟩ := cells4m (v0 := .int .i64 m.txn) (v1 := .int .i64 m.root) (v2 := .int .i64 m.free) (v3 := .int .i64 m.pages) r0 r1 r2 r3
      exact bodyPost_ret (v := .tuple #[mtv m, .int .i64 0]) (by simp [results, Tryd.results11, go_sem, mtv, x0, x1, x2, x3]) rfl ⟨rfl, (((HFW.out.setCell (p := ⟨w.heap.size, 0, none⟩) (Nat.le_refl _) _).setCell (p := ⟨w.heap.size, 1, none⟩) (Nat.le_refl _) _).setCell (p := ⟨w.heap.size, 2, none⟩) (Nat.le_refl _) _).setCell (p := ⟨w.heap.size, 3, none⟩) (Nat.le_refl _) _⟩

set_option maxHeartbeats 2000000 in
set_option maxRecDepth 100000 in
theorem meta_get_place (m : Mt) (hm : m.ok) (at' : Int) (page body : ByteArray) (hms : body.size = 24) (ho : ∀ w, Calls Tryd.prog 30 #[.int .i64 at', .string page] w fun e w' => e = .returned (.tuple #[.agg #[.int .i64 1, .int .i64 0, .string body], .int .i64 0]) ∧ Below w.heap.size w w') (hu : ∀ k, k < 4 → unfixN body (k * 6) 6 = HL.el m.l k) (hat : at' ≠ ((m.txn % 2 : Nat) : Int)) (w : World) :
    Calls Tryd.prog 11 #[.int .i64 at', .string page] w fun e w' => e = .returned (.tuple #[mtv ⟨0, 0, 0, 0⟩, .int .i64 4]) ∧ Below w.heap.size w w' := by
  have hne : (((m.txn % 2 : Nat) : Int) != at') = true := by rw [bne_iff_ne]; exact fun e => hat e.symm
  have HNE := Lib.hid hne
  clear hat hne
  have HO := Lib.hid ho
  have HMS := Lib.hid hms
  have HUX : Hid (∀ k, k < 4 → ∀ w, Calls Tryd.prog 31 #[.string body, .int .i64 ((k * 6 : Nat) : Int), .int .i64 6] w fun e w' => e = .returned (.tuple #[.int .i64 (HL.el m.l k : Nat), .int .i64 0]) ∧ w' = w) := Lib.hid (fun k hk w => by
    rw [← hu k hk]
    exact num_unfix body (k * 6) 6 w (by rw [hms]; omega) (by omega) (by omega) (by omega))
  have HPL := Lib.hid (fun w => meta_place m.txn w (by have := hm 0 (by omega); simp only [Mt.l, HL.el, List.getD_cons_zero] at this; omega))
  clear hm ho hu
  go_enter Tryd.func11, Tryd.ntmps11
  go_wp2_with fail
  refine (HO.out _).mono ?_
  rintro e w1 ⟨rfl, hb1⟩
  have HR1 : Hid (∀ i, i < 4 → w1.cell? ⟨w.heap.size, i, none⟩ = some (.int .i64 0) ∧ w1.frozen? ⟨w.heap.size, i, none⟩ = false) := Lib.hid (fun i hi => by
    have hlt : w.heap.size < (w.alloc (.cells #[.int .i64 0, .int .i64 0, .int .i64 0, .int .i64 0] 23)).heap.size := by simp
    have h := heap_alloc_new w (.cells #[.int .i64 0, .int .i64 0, .int .i64 0, .int .i64 0] 23)
    refine ⟨(hb1.cell (p := ⟨w.heap.size, i, none⟩) hlt).trans ?_, (hb1.frozen (p := ⟨w.heap.size, i, none⟩) hlt).trans ?_⟩
    · rw [cell_of_row _ _ _ _ _ _ h]
      match i, hi with
      | 0, _ => rfl
      | 1, _ => rfl
      | 2, _ => rfl
      | 3, _ => rfl
    · unfold World.frozen?
      rw [h]
      simp)
  have HB1 : Hid (Below w.heap.size w w1) := Lib.hid (((Below.refl _ w).alloc (Nat.le_refl _) _).trans (hb1.mono (by simp)))
  have HZ1 : Hid (w.heap.size < w1.heap.size) := Lib.hid (by have := hb1.size; simp at this; omega)
  clear hb1
  go_wp2
  have hF0 : Fr (fun _ => False) w1 (((w1.alloc (.cells #[.int .i64 1, .int .i64 0, .string body] 54)).alloc (.cells #[.int .i64 0, .int .i64 0, .int .i64 0, .int .i64 0] 23)).alloc (.cells #[.pointer (some ⟨w1.heap.size + 1, 0, none⟩), .pointer (some ⟨w1.heap.size + 1, 1, none⟩), .pointer (some ⟨w1.heap.size + 1, 2, none⟩), .pointer (some ⟨w1.heap.size + 1, 3, none⟩)] 57)) := (((Fr.refl _ w1).alloc _).alloc _).alloc _
  have hz0 : (((w1.alloc (.cells #[.int .i64 1, .int .i64 0, .string body] 54)).alloc (.cells #[.int .i64 0, .int .i64 0, .int .i64 0, .int .i64 0] 23)).alloc (.cells #[.pointer (some ⟨w1.heap.size + 1, 0, none⟩), .pointer (some ⟨w1.heap.size + 1, 1, none⟩), .pointer (some ⟨w1.heap.size + 1, 2, none⟩), .pointer (some ⟨w1.heap.size + 1, 3, none⟩)] 57)).heap.size = w1.heap.size + 3 := by simp
  have hpc : ∀ k, k < 4 → (((w1.alloc (.cells #[.int .i64 1, .int .i64 0, .string body] 54)).alloc (.cells #[.int .i64 0, .int .i64 0, .int .i64 0, .int .i64 0] 23)).alloc (.cells #[.pointer (some ⟨w1.heap.size + 1, 0, none⟩), .pointer (some ⟨w1.heap.size + 1, 1, none⟩), .pointer (some ⟨w1.heap.size + 1, 2, none⟩), .pointer (some ⟨w1.heap.size + 1, 3, none⟩)] 57)).cell? ⟨w1.heap.size + 1 + 1, k, none⟩ = some (.pointer (some ⟨w1.heap.size + 1, k, none⟩)) := by
    intro k hk
    match k, hk with
    | 0, _ => go_simp
    | 1, _ => go_simp
    | 2, _ => go_simp
    | 3, _ => go_simp
  have hbc : (((w1.alloc (.cells #[.int .i64 1, .int .i64 0, .string body] 54)).alloc (.cells #[.int .i64 0, .int .i64 0, .int .i64 0, .int .i64 0] 23)).alloc (.cells #[.pointer (some ⟨w1.heap.size + 1, 0, none⟩), .pointer (some ⟨w1.heap.size + 1, 1, none⟩), .pointer (some ⟨w1.heap.size + 1, 2, none⟩), .pointer (some ⟨w1.heap.size + 1, 3, none⟩)] 57)).cell? ⟨w1.heap.size, 2, none⟩ = some (.string body) := by clear hpc; go_simp
  have hmc : mtC (w1.heap.size + 1) m 0 (((w1.alloc (.cells #[.int .i64 1, .int .i64 0, .string body] 54)).alloc (.cells #[.int .i64 0, .int .i64 0, .int .i64 0, .int .i64 0] 23)).alloc (.cells #[.pointer (some ⟨w1.heap.size + 1, 0, none⟩), .pointer (some ⟨w1.heap.size + 1, 1, none⟩), .pointer (some ⟨w1.heap.size + 1, 2, none⟩), .pointer (some ⟨w1.heap.size + 1, 3, none⟩)] 57)) := by
    clear hpc hbc
    intro k hk
    match k, hk with
    | 0, _ => exact ⟨by go_simp, by go_simp⟩
    | 1, _ => exact ⟨by go_simp, by go_simp⟩
    | 2, _ => exact ⟨by go_simp, by go_simp⟩
    | 3, _ => exact ⟨by go_simp, by go_simp⟩
  generalize (((w1.alloc (.cells #[.int .i64 1, .int .i64 0, .string body] 54)).alloc (.cells #[.int .i64 0, .int .i64 0, .int .i64 0, .int .i64 0] 23)).alloc (.cells #[.pointer (some ⟨w1.heap.size + 1, 0, none⟩), .pointer (some ⟨w1.heap.size + 1, 1, none⟩), .pointer (some ⟨w1.heap.size + 1, 2, none⟩), .pointer (some ⟨w1.heap.size + 1, 3, none⟩)] 57)) = W0 at *
  have HF0 := Lib.hid hF0
  have HZ0 := Lib.hid hz0
  have HPC := Lib.hid hpc
  have HBC := Lib.hid hbc
  have HMC := Lib.hid hmc
  clear hF0 hz0 hpc hbc hmc hms
  go_loopw [42] (fun i wr => ∃ k : Nat, k ≤ 4 ∧ i = .int .i64 k ∧ Hid (mtC (w1.heap.size + 1) m k wr ∧ Fr (fun b => b = w1.heap.size + 1) W0 wr)) (fun i _ => 4 - (intOf i).toNat)
  case atStart => exact ⟨0, Nat.zero_le _, rfl, Lib.hid ⟨HMC.out, Fr.refl _ _⟩⟩
  case round =>
    obtain ⟨k, hk, rfl, hrel⟩ := hrel
    by_cases hk4 : k < 4
    · have hx := (hrel.out.2.cell (p := ⟨w1.heap.size + 1 + 1, k, none⟩) (by have := HZ0.out; show w1.heap.size + 1 + 1 < _; omega) (by show ¬ w1.heap.size + 1 + 1 = w1.heap.size + 1; omega)).trans (HPC.out k hk4)
      have hy := (hrel.out.2.cell (p := ⟨w1.heap.size, 2, none⟩) (by have := HZ0.out; show w1.heap.size < _; omega) (by show ¬ w1.heap.size = w1.heap.size + 1; omega)).trans HBC.out
      obtain ⟨hc, hf⟩ := hrel.out.1 k hk4
      have HU := Lib.hid (HUX.out k hk4)
      rw [show ((k * 6 : Nat) : Int) = (k : Int) * 6 by omega] at HU
      have HR2 : Hid (mtC (w1.heap.size + 1) m (k + 1) (wr.setCell ⟨w1.heap.size + 1, k, none⟩ (.int .i64 (HL.el m.l k : Nat))) ∧ Fr (fun b => b = w1.heap.size + 1) W0 (wr.setCell ⟨w1.heap.size + 1, k, none⟩ (.int .i64 (HL.el m.l k : Nat)))) := Lib.hid ⟨hrel.out.1.put hk4, hrel.out.2.setCell (p := ⟨w1.heap.size + 1, k, none⟩) (fun _ => rfl) _⟩
      have hsz : w1.heap.size + 1 < wr.heap.size := by have h1 := HZ0.out; have h2 := hrel.out.2.size; omega
      clear hrel
      generalize HL.el m.l k = v at *
      go_wp2_with fail
      refine (HU.out _).mono ?_
      rintro e w2 ⟨rfl, rfl⟩
      go_wp2
      go_roundw
      case rel => exact ⟨k + 1, by omega, by go_num, HR2⟩
      case measure => simp [intOf]; omega
    · obtain rfl : k = 4 := by omega
      obtain ⟨q0, -⟩ := hrel.out.1 0 (by omega)
      obtain ⟨q1, -⟩ := hrel.out.1 1 (by omega)
      obtain ⟨q2, -⟩ := hrel.out.1 2 (by omega)
      obtain ⟨q3, -⟩ := hrel.out.1 3 (by omega)
      have q0' : wr.cell? ⟨w1.heap.size + 1, 0, none⟩ = some (.int .i64 m.txn) := q0
      have q1' : wr.cell? ⟨w1.heap.size + 1, 1, none⟩ = some (.int .i64 m.root) := q1
      have q2' : wr.cell? ⟨w1.heap.size + 1, 2, none⟩ = some (.int .i64 m.free) := q2
      have q3' : wr.cell? ⟨w1.heap.size + 1, 3, none⟩ = some (.int .i64 m.pages) := q3
      have hfr : Fr (fun b => b = w1.heap.size + 1) w1 wr := Fr.trans (HF0.out.mono (fun _ _ h => h.elim)) hrel.out.2 (fun _ h _ => h)
      have hrr := fun i (hi : i < 4) => And.intro ((hfr.cell (p := ⟨w.heap.size, i, none⟩) HZ1.out (by have := HZ1.out; show ¬ w.heap.size = w1.heap.size + 1; omega)).trans (HR1.out i hi).1) ((hfr.frozen (p := ⟨w.heap.size, i, none⟩) HZ1.out (by have := HZ1.out; show ¬ w.heap.size = w1.heap.size + 1; omega)).trans (HR1.out i hi).2)
      obtain ⟨r0, s0⟩ := hrr 0 (by omega)
      obtain ⟨r1, s1⟩ := hrr 1 (by omega)
      obtain ⟨r2, s2⟩ := hrr 2 (by omega)
      obtain ⟨r3, s3⟩ := hrr 3 (by omega)
      have HFW : Hid (Below w.heap.size w wr) := Lib.hid (HB1.out.trans (hfr.below (by have := HZ1.out; omega) (fun i hi => by have : i = w1.heap.size + 1 := hi; have := HZ1.out; omega)))
      have hz9 : w.heap.size < wr.heap.size := by have := hfr.size; have := HZ1.out; omega
      clear q0 q1 q2 q3 hrel hrr hfr
      have hne := HNE.out
      generalize hmt : ((m.txn % 2 : Nat) : Int) = mt at *
      clear hmt
      go_wp2_with fail
      refine (HPL.out _).mono ?_
      rintro e w2 ⟨rfl, rfl⟩
      go_wp2
      obtain ⟨x0, x1, x2, x3⟩ := cells4m (v0 := .int .i64 0) (v1 := .int .i64 0) (v2 := .int .i64 0) (v3 := .int .i64 0) r0 r1 r2 r3
      refine bodyPost_ret (v := .tuple #[mtv ⟨0, 0, 0, 0⟩, .int .i64 4]) (by simp [results, Tryd.results11, go_sem, mtv, x0, x1, x2, x3]) rfl ⟨rfl, ?_⟩
      exact ((((HFW.out.setCell (p := ⟨w.heap.size, 0, none⟩) (Nat.le_refl _) _).setCell (p := ⟨w.heap.size, 1, none⟩) (Nat.le_refl _) _).setCell (p := ⟨w.heap.size, 2, none⟩) (Nat.le_refl _) _).setCell (p := ⟨w.heap.size, 3, none⟩) (Nat.le_refl _) _)

set_option maxHeartbeats 1000000 in
set_option maxRecDepth 100000 in
/-- Get of a page that bears no meta. -/
theorem meta_get_form (at' kd nx : Int) (b body : ByteArray) (hk : (kd != 1) = true ∨ (kd != 1) = false ∧ (nx != 0) = true ∨ (kd != 1) = false ∧ (nx != 0) = false ∧ ((body.size : Int) != 24) = true) (HO : Hid (∀ w, Calls Tryd.prog 30 #[.int .i64 at', .string b] w fun e w' => e = .returned (.tuple #[.agg #[.int .i64 kd, .int .i64 nx, .string body], .int .i64 0]) ∧ Below w.heap.size w w')) (w : World) :
    Calls Tryd.prog 11 #[.int .i64 at', .string b] w fun e w' => e = .returned (.tuple #[mtv ⟨0, 0, 0, 0⟩, .int .i64 4]) ∧ Below w.heap.size w w' := by
  have HK := Lib.hid hk
  go_enter Tryd.func11, Tryd.ntmps11
  go_wp2_with fail
  refine (HO.out _).mono ?_
  rintro e w1 ⟨rfl, hb1⟩
  have hr : ∀ i, i < 4 → w1.cell? ⟨w.heap.size, i, none⟩ = some (.int .i64 0) ∧ w1.frozen? ⟨w.heap.size, i, none⟩ = false := fun i hi => by
    have hlt : w.heap.size < (w.alloc (.cells #[.int .i64 0, .int .i64 0, .int .i64 0, .int .i64 0] 23)).heap.size := by simp
    have h := heap_alloc_new w (.cells #[.int .i64 0, .int .i64 0, .int .i64 0, .int .i64 0] 23)
    refine ⟨(hb1.cell (p := ⟨w.heap.size, i, none⟩) hlt).trans ?_, (hb1.frozen (p := ⟨w.heap.size, i, none⟩) hlt).trans ?_⟩
    · rw [cell_of_row _ _ _ _ _ _ h]
      match i, hi with
      | 0, _ => rfl
      | 1, _ => rfl
      | 2, _ => rfl
      | 3, _ => rfl
    · unfold World.frozen?
      rw [h]
      simp
  have HB1 : Hid (Below w.heap.size w w1) := Lib.hid (((Below.refl _ w).alloc (Nat.le_refl _) _).trans (hb1.mono (by simp)))
  have hz1 : w.heap.size < w1.heap.size := by have := hb1.size; simp at this; omega
  obtain ⟨r0, s0⟩ := hr 0 (by omega)
  obtain ⟨r1, s1⟩ := hr 1 (by omega)
  obtain ⟨r2, s2⟩ := hr 2 (by omega)
  obtain ⟨r3, s3⟩ := hr 3 (by omega)
  clear hr hb1 hk
  have HZ1 := Lib.hid hz1
  rcases HK.out with h1 | ⟨h1, h2⟩ | ⟨h1, h2, h3⟩
  all_goals
    clear HK
    go_wp2
    obtain ⟨x0, x1, x2, x3⟩ := cells4m (v0 := .int .i64 0) (v1 := .int .i64 0) (v2 := .int .i64 0) (v3 := .int .i64 0) r0 r1 r2 r3
    refine bodyPost_ret (v := .tuple #[mtv ⟨0, 0, 0, 0⟩, .int .i64 4]) (by simp [results, Tryd.results11, go_sem, mtv, x0, x1, x2, x3, hz1]) rfl ⟨rfl, ?_⟩
    exact ((((HB1.out.setCell (p := ⟨w.heap.size, 0, none⟩) (Nat.le_refl _) _).setCell (p := ⟨w.heap.size, 1, none⟩) (Nat.le_refl _) _).setCell (p := ⟨w.heap.size, 2, none⟩) (Nat.le_refl _) _).setCell (p := ⟨w.heap.size, 3, none⟩) (Nat.le_refl _) _).alloc (by simp [World.setCell]; exact HB1.out.size) _
end Go.Proofs.YtpoiopjggmhnjaaDoor

/- arboretumref1: GetMeta of any page. -/
namespace Go.Proofs.YtpoiopjggmhnjaaDoor
open Go.RowKit

theorem in_T : RowT Tryd.prog 50 3 ncells 1 8 :=
  RowT.of Tryd.underlying50 info_int rfl (by omega) ncells_length (fun x u hu => by
    simp only [ncells, List.mem_cons, List.not_mem_nil, or_false] at hu
    rcases hu with rfl; rfl) (by omega)

set_option maxHeartbeats 1000000 in
set_option maxRecDepth 100000 in
/-- Get of a page that is not opened. -/
theorem ref_get_err (at' k : Int) (b : ByteArray) (hk : k ≠ 0) (HO : Hid (∀ w, Calls Tryd.prog 32 #[.int .i64 at', .string b] w fun e w' => e = .returned (.tuple #[pv 0 0 ByteArray.empty, .int .i64 k]) ∧ Below w.heap.size w w')) (w : World) :
    Calls Tryd.prog 12 #[.int .i64 at', .string b] w fun e w' => e = .returned (.tuple #[mtv ⟨0, 0, 0, 0⟩, .int .i64 k]) ∧ Below w.heap.size w w' := by
  have hne : (k != 0) = true := by rw [bne_iff_ne]; exact hk
  go_enter Tryd.func12, Tryd.ntmps12
  go_wp2_with fail
  refine (HO.out _).mono ?_
  rintro e w1 ⟨rfl, hb1⟩
  have hr : ∀ i, i < 4 → w1.cell? ⟨w.heap.size, i, none⟩ = some (.int .i64 0) ∧ w1.frozen? ⟨w.heap.size, i, none⟩ = false := fun i hi => by
    have hlt : w.heap.size < (w.alloc (.cells #[.int .i64 0, .int .i64 0, .int .i64 0, .int .i64 0] 23)).heap.size := by simp
    have h := heap_alloc_new w (.cells #[.int .i64 0, .int .i64 0, .int .i64 0, .int .i64 0] 23)
    refine ⟨(hb1.cell (p := ⟨w.heap.size, i, none⟩) hlt).trans ?_, (hb1.frozen (p := ⟨w.heap.size, i, none⟩) hlt).trans ?_⟩
    · rw [cell_of_row _ _ _ _ _ _ h]
      match i, hi with
      | 0, _ => rfl
      | 1, _ => rfl
      | 2, _ => rfl
      | 3, _ => rfl
    · unfold World.frozen?
      rw [h]
      simp
  have HB1 : Hid (Below w.heap.size w w1) := Lib.hid (((Below.refl _ w).alloc (Nat.le_refl _) _).trans (hb1.mono (by simp)))
  have hz1 : w.heap.size < w1.heap.size := by have := hb1.size; simp at this; omega
  obtain ⟨r0, s0⟩ := hr 0 (by omega)
  obtain ⟨r1, s1⟩ := hr 1 (by omega)
  obtain ⟨r2, s2⟩ := hr 2 (by omega)
  obtain ⟨r3, s3⟩ := hr 3 (by omega)
  clear hr hb1 hk
  unfold pv
  go_wp2
  obtain ⟨x0, x1, x2, x3⟩ := cells4m (v0 := .int .i64 0) (v1 := .int .i64 0) (v2 := .int .i64 0) (v3 := .int .i64 0) r0 r1 r2 r3
  refine bodyPost_ret (v := .tuple #[mtv ⟨0, 0, 0, 0⟩, .int .i64 k]) (by simp [results, Tryd.results12, go_sem, mtv, x0, x1, x2, x3, hz1]) rfl ⟨rfl, ?_⟩
  exact ((((HB1.out.setCell (p := ⟨w.heap.size, 0, none⟩) (Nat.le_refl _) _).setCell (p := ⟨w.heap.size, 1, none⟩) (Nat.le_refl _) _).setCell (p := ⟨w.heap.size, 2, none⟩) (Nat.le_refl _) _).setCell (p := ⟨w.heap.size, 3, none⟩) (Nat.le_refl _) _).alloc (by simp [World.setCell]; exact HB1.out.size) _
set_option maxHeartbeats 1000000 in
set_option maxRecDepth 100000 in
/-- Get of a page that bears no meta. -/
theorem ref_get_form (at' kd nx : Int) (b body : ByteArray) (hk : (kd != 1) = true ∨ (kd != 1) = false ∧ (nx != 0) = true ∨ (kd != 1) = false ∧ (nx != 0) = false ∧ ((body.size : Int) != 24) = true) (HO : Hid (∀ w, Calls Tryd.prog 32 #[.int .i64 at', .string b] w fun e w' => e = .returned (.tuple #[.agg #[.int .i64 kd, .int .i64 nx, .string body], .int .i64 0]) ∧ Below w.heap.size w w')) (w : World) :
    Calls Tryd.prog 12 #[.int .i64 at', .string b] w fun e w' => e = .returned (.tuple #[mtv ⟨0, 0, 0, 0⟩, .int .i64 4]) ∧ Below w.heap.size w w' := by
  have HK := Lib.hid hk
  go_enter Tryd.func12, Tryd.ntmps12
  go_wp2_with fail
  refine (HO.out _).mono ?_
  rintro e w1 ⟨rfl, hb1⟩
  have hr : ∀ i, i < 4 → w1.cell? ⟨w.heap.size, i, none⟩ = some (.int .i64 0) ∧ w1.frozen? ⟨w.heap.size, i, none⟩ = false := fun i hi => by
    have hlt : w.heap.size < (w.alloc (.cells #[.int .i64 0, .int .i64 0, .int .i64 0, .int .i64 0] 23)).heap.size := by simp
    have h := heap_alloc_new w (.cells #[.int .i64 0, .int .i64 0, .int .i64 0, .int .i64 0] 23)
    refine ⟨(hb1.cell (p := ⟨w.heap.size, i, none⟩) hlt).trans ?_, (hb1.frozen (p := ⟨w.heap.size, i, none⟩) hlt).trans ?_⟩
    · rw [cell_of_row _ _ _ _ _ _ h]
      match i, hi with
      | 0, _ => rfl
      | 1, _ => rfl
      | 2, _ => rfl
      | 3, _ => rfl
    · unfold World.frozen?
      rw [h]
      simp
  have HB1 : Hid (Below w.heap.size w w1) := Lib.hid (((Below.refl _ w).alloc (Nat.le_refl _) _).trans (hb1.mono (by simp)))
  have hz1 : w.heap.size < w1.heap.size := by have := hb1.size; simp at this; omega
  obtain ⟨r0, s0⟩ := hr 0 (by omega)
  obtain ⟨r1, s1⟩ := hr 1 (by omega)
  obtain ⟨r2, s2⟩ := hr 2 (by omega)
  obtain ⟨r3, s3⟩ := hr 3 (by omega)
  clear hr hb1 hk
  have HZ1 := Lib.hid hz1
  rcases HK.out with h1 | ⟨h1, h2⟩ | ⟨h1, h2, h3⟩
  all_goals
    clear HK
    go_wp2
    obtain ⟨x0, x1, x2, x3⟩ := cells4m (v0 := .int .i64 0) (v1 := .int .i64 0) (v2 := .int .i64 0) (v3 := .int .i64 0) r0 r1 r2 r3
    refine bodyPost_ret (v := .tuple #[mtv ⟨0, 0, 0, 0⟩, .int .i64 4]) (by simp [results, Tryd.results12, go_sem, mtv, x0, x1, x2, x3, hz1]) rfl ⟨rfl, ?_⟩
    exact ((((HB1.out.setCell (p := ⟨w.heap.size, 0, none⟩) (Nat.le_refl _) _).setCell (p := ⟨w.heap.size, 1, none⟩) (Nat.le_refl _) _).setCell (p := ⟨w.heap.size, 2, none⟩) (Nat.le_refl _) _).setCell (p := ⟨w.heap.size, 3, none⟩) (Nat.le_refl _) _).alloc (by simp [World.setCell]; exact HB1.out.size) _
set_option maxHeartbeats 2000000 in
set_option maxRecDepth 100000 in
theorem ref_get_body (m : Mt) (at' : Int) (page body : ByteArray) (hms : body.size = 24) (ho : ∀ w, Calls Tryd.prog 32 #[.int .i64 at', .string page] w fun e w' => e = .returned (.tuple #[.agg #[.int .i64 1, .int .i64 0, .string body], .int .i64 0]) ∧ Below w.heap.size w w') (hu : ∀ k, k < 4 → unfixN body (k * 6) 6 = HL.el m.l k) (hat : at' = ((m.txn % 2 : Nat) : Int)) (w : World) :
    Calls Tryd.prog 12 #[.int .i64 at', .string page] w fun e w' => e = .returned (.tuple #[mtv m, .int .i64 0]) ∧ Below w.heap.size w w' := by
  have HAT := Lib.hid hat
  have HO := Lib.hid ho
  have HMS := Lib.hid hms
  have HUX : Hid (∀ k, k < 4 → ∀ w, Calls Tryd.prog 33 #[.string body, .int .i64 ((k * 6 : Nat) : Int), .int .i64 6] w fun e w' => e = .returned (.tuple #[.int .i64 (HL.el m.l k : Nat), .int .i64 0]) ∧ w' = w) := Lib.hid (fun k hk w => by
    rw [← hu k hk]
    exact ref_unfix body (k * 6) 6 w (by rw [hms]; omega) (by omega) (by omega) (by rw [hms]; omega))
  have HPL : Hid (∀ w, Calls Tryd.prog 10 #[.int .i64 m.txn] w fun e w' => e = .returned (.int .i64 at') ∧ w' = w) := Lib.hid (fun w => by
    have h := ref_place m.txn w
    rw [show ((m.txn : Int) % 2) = at' by omega] at h
    exact h)
  have HVS : Hid (m.l.map (fun v : Nat => (v : Int)) = [(m.txn : Int), m.root, m.free, m.pages]) := Lib.hid rfl
  clear ho hu hat
  go_enter Tryd.func12, Tryd.ntmps12
  go_wp2_with fail
  refine (HO.out _).mono ?_
  rintro e w1 ⟨rfl, hb1⟩
  have hr : ∀ i, i < 4 → w1.cell? ⟨w.heap.size, i, none⟩ = some (.int .i64 0) ∧ w1.frozen? ⟨w.heap.size, i, none⟩ = false := fun i hi => by
    have hlt : w.heap.size < (w.alloc (.cells #[.int .i64 0, .int .i64 0, .int .i64 0, .int .i64 0] 23)).heap.size := by simp
    have h := heap_alloc_new w (.cells #[.int .i64 0, .int .i64 0, .int .i64 0, .int .i64 0] 23)
    refine ⟨(hb1.cell (p := ⟨w.heap.size, i, none⟩) hlt).trans ?_, (hb1.frozen (p := ⟨w.heap.size, i, none⟩) hlt).trans ?_⟩
    · rw [cell_of_row _ _ _ _ _ _ h]
      match i, hi with
      | 0, _ => rfl
      | 1, _ => rfl
      | 2, _ => rfl
      | 3, _ => rfl
    · unfold World.frozen?
      rw [h]
      simp

  have HR1 := Lib.hid hr
  have HB1 : Hid (Below w.heap.size w w1) := Lib.hid (((Below.refl _ w).alloc (Nat.le_refl _) _).trans (hb1.mono (by simp)))
  have HZ1 : Hid (w.heap.size < w1.heap.size) := Lib.hid (by have := hb1.size; simp at this; omega)
  clear hb1 hr
  have hbs : ((body.size : Int) != 24) = false := by rw [hms]; rfl
  clear hms
  have hbc : (w1.alloc (.cells #[.int .i64 1, .int .i64 0, .string body] 54)).cell? ⟨w1.heap.size, 2, none⟩ = some (.string body) := by go_simp
  have hF0 : Fr (fun _ => False) w1 (w1.alloc (.cells #[.int .i64 1, .int .i64 0, .string body] 54)) := (Fr.refl (fun _ => False) w1).alloc _
  have hz0 : (w1.alloc (.cells #[.int .i64 1, .int .i64 0, .string body] 54)).heap.size = w1.heap.size + 1 := by simp
  have HBC := Lib.hid hbc
  have HF0 := Lib.hid hF0
  have HZ0 := Lib.hid hz0
  clear hbc hF0 hz0
  go_wp2
  clear hbs
  generalize w1.alloc (.cells #[.int .i64 1, .int .i64 0, .string body] 54) = W0 at *
  go_loopw [8, 9] (fun lv i wr => ∃ k : Nat, k ≤ 4 ∧ i = .int .i64 k ∧ Hid (wr.ownsRow (w1.heap.size + 1) 3 1 lv k (rowOf ncells ((m.l.map (fun v : Nat => (v : Int))).take k)) ∧ Below W0.heap.size W0 wr)) (fun _ i _ => 4 - (intOf i).toNat)
  case atStart => exact ⟨0, Nat.zero_le _, rfl, Lib.hid ⟨World.ownsRow_nil _ _ _ _, Below.refl _ _⟩⟩
  case round =>
    obtain ⟨k, hk, rfl, hrel⟩ := hrel
    obtain ⟨lp, lc, hlv⟩ := owns_slice hrel.out.1
    subst hlv
    have HREL : Hid (wr.ownsRow (w1.heap.size + 1) 3 1 (.slice lp k lc) k (rowOf ncells ((m.l.map (fun v : Nat => (v : Int))).take k)) ∧ Below W0.heap.size W0 wr) := hrel
    clear hrel
    by_cases hk4 : k < 4
    · have hy := (HREL.out.2.cell (p := ⟨w1.heap.size, 2, none⟩) (by have := HZ0.out; show w1.heap.size < _; omega)).trans HBC.out
      have HU := Lib.hid (HUX.out k hk4)
      rw [show ((k * 6 : Nat) : Int) = 6 * (k : Int) by omega] at HU
      have HE : Hid ((m.l.map (fun v : Nat => (v : Int))).take (k + 1) = (m.l.map (fun v : Nat => (v : Int))).take k ++ [((HL.el m.l k : Nat) : Int)]) := Lib.hid (by
        match k, hk4 with
        | 0, _ => rfl
        | 1, _ => rfl
        | 2, _ => rfl
        | 3, _ => rfl)
      have hsz : w1.heap.size + 1 ≤ wr.heap.size := by have h1 := HZ0.out; have h2 := HREL.out.2.size; omega
      generalize HL.el m.l k = v at *
      go_wp2_with fail
      refine (HU.out _).mono ?_
      rintro e w2 ⟨rfl, rfl⟩
      have HRD : Hid (RdG ncells (w2.alloc (.cells #[.int .i64 (v : Int)] 3)) (w2.alloc (.cells #[.int .i64 (v : Int)] 3)).heap.size (some ⟨w2.heap.size, 0, none⟩) 1 [(v : Int)]) := Lib.hid ⟨rfl, fun _ => ⟨w2.heap.size, 0, rfl, by simp, fun j u hu => by
        have e := new_cells w2 [.int .i64 (v : Int)] 3 j u hu
        rw [add_at0] at e
        rw [Nat.zero_add]
        exact e⟩⟩
      go_wp2_with (at_builtin; refine RowT.app in_T rfl _ _ rfl (w1.heap.size + 1) (.slice lp k lc) k (rowOf ncells ((m.l.map (fun v : Nat => (v : Int))).take k)) rfl (HREL.out.1.alloc _) (m := 1) (zs := [(v : Int)]) rfl HRD.out (fun h => by cases h) (by omega) (by simp; omega) ?_; intro v3 w3 hown3 hgr3 _; have HO3 : Hid (w3.ownsRow (w1.heap.size + 1) 3 1 v3 (k + 1) (rowOf ncells ((m.l.map (fun v : Nat => (v : Int))).take (k + 1)))) := Lib.hid (by rw [HE.out, rowOf_append]; exact hown3); have HB3 : Hid (Below W0.heap.size W0 w3) := Lib.hid ((HREL.out.2.alloc HREL.out.2.size _).grown hgr3 (by simp; have := HREL.out.2.size; omega) (fun j hj => by have := (HREL.out.1.lt j hj).1; have := HZ0.out; omega)); clear hown3 hgr3)
      go_wp2
      go_roundw
      case rel => exact ⟨k + 1, by omega, by go_num, Lib.hid ⟨HO3.out, HB3.out⟩⟩
      case measure => simp [intOf]; omega
    · obtain rfl : k = 4 := by omega
      have ho4 := HREL.out.1
      rw [show (m.l.map (fun v : Nat => (v : Int))).take 4 = [(m.txn : Int), m.root, m.free, m.pages] from rfl] at ho4
      obtain ⟨g, cap, hv, hg1, hg2, hg3⟩ := owns_len ho4 (by omega)
      injection hv with hv1 _ hv3
      subst hv1 hv3
      have q0 : wr.cell? ⟨g, 0, none⟩ = some (.int .i64 m.txn) := (ho4.cellAt 0 (by omega)).trans rfl
      have q1 : wr.cell? ⟨g, 1, none⟩ = some (.int .i64 m.root) := (ho4.cellAt 1 (by omega)).trans rfl
      have q2 : wr.cell? ⟨g, 2, none⟩ = some (.int .i64 m.free) := (ho4.cellAt 2 (by omega)).trans rfl
      have q3 : wr.cell? ⟨g, 3, none⟩ = some (.int .i64 m.pages) := (ho4.cellAt 3 (by omega)).trans rfl
      have hfr : Fr (fun _ => False) w1 wr := Fr.trans HF0.out (Fr.of_all (S := fun _ => False) HREL.out.2) (fun _ h _ => h)
      have hrr := fun i (hi : i < 4) => And.intro ((hfr.cell (p := ⟨w.heap.size, i, none⟩) HZ1.out (fun h => h)).trans (HR1.out i hi).1) ((hfr.frozen (p := ⟨w.heap.size, i, none⟩) HZ1.out (fun h => h)).trans (HR1.out i hi).2)
      obtain ⟨r0, s0⟩ := hrr 0 (by omega)
      obtain ⟨r1, s1⟩ := hrr 1 (by omega)
      obtain ⟨r2, s2⟩ := hrr 2 (by omega)
      obtain ⟨r3, s3⟩ := hrr 3 (by omega)
      have HFW : Hid (Below w.heap.size w wr) := Lib.hid (HB1.out.trans (hfr.below (by have := HZ1.out; omega) (fun i hi => hi.elim)))
      have hz9 : w.heap.size < wr.heap.size := by have := hfr.size; have := HZ1.out; omega
      clear ho4 hg1 hg3 hrr hfr HREL
      go_wp2_with fail
      refine (HPL.out _).mono ?_
      rintro e w2 ⟨rfl, rfl⟩
      obtain ⟨x0, x1, x2, x3⟩ := cells4m (v0 := .int .i64 m.txn) (v1 := .int .i64 m.root) (v2 := .int .i64 m.free) (v3 := .int .i64 m.pages) r0 r1 r2 r3
      have hne : (at' != at') = false := by simp
      go_wp2_with fail
      go_still_tail 13, (by kernel_rfl)
      change wpList _ _ _ _ _ w2.drew
      go_wp2
      exact bodyPost_ret (v := .tuple #[mtv m, .int .i64 0]) (by simp [results, Tryd.results12, go_sem, mtv, x0, x1, x2, x3]) rfl ⟨rfl, ((((HFW.out.setCell (p := ⟨w.heap.size, 0, none⟩) (Nat.le_refl _) _).setCell (p := ⟨w.heap.size, 1, none⟩) (Nat.le_refl _) _).setCell (p := ⟨w.heap.size, 2, none⟩) (Nat.le_refl _) _).setCell (p := ⟨w.heap.size, 3, none⟩) (Nat.le_refl _) _).drew⟩
set_option maxHeartbeats 2000000 in
set_option maxRecDepth 100000 in
theorem ref_get_place (m : Mt) (at' : Int) (page body : ByteArray) (hms : body.size = 24) (ho : ∀ w, Calls Tryd.prog 32 #[.int .i64 at', .string page] w fun e w' => e = .returned (.tuple #[.agg #[.int .i64 1, .int .i64 0, .string body], .int .i64 0]) ∧ Below w.heap.size w w') (hu : ∀ k, k < 4 → unfixN body (k * 6) 6 = HL.el m.l k) (hat : (((m.txn % 2 : Nat) : Int) != at') = true) (w : World) :
    Calls Tryd.prog 12 #[.int .i64 at', .string page] w fun e w' => e = .returned (.tuple #[mtv ⟨0, 0, 0, 0⟩, .int .i64 4]) ∧ Below w.heap.size w w' := by
  have HAT := Lib.hid hat
  have HO := Lib.hid ho
  have HMS := Lib.hid hms
  have HUX : Hid (∀ k, k < 4 → ∀ w, Calls Tryd.prog 33 #[.string body, .int .i64 ((k * 6 : Nat) : Int), .int .i64 6] w fun e w' => e = .returned (.tuple #[.int .i64 (HL.el m.l k : Nat), .int .i64 0]) ∧ w' = w) := Lib.hid (fun k hk w => by
    rw [← hu k hk]
    exact ref_unfix body (k * 6) 6 w (by rw [hms]; omega) (by omega) (by omega) (by rw [hms]; omega))
  have HPL : Hid (∀ w, Calls Tryd.prog 10 #[.int .i64 m.txn] w fun e w' => e = .returned (.int .i64 ((m.txn % 2 : Nat) : Int)) ∧ w' = w) := Lib.hid (fun w => by
    have h := ref_place m.txn w
    rw [show ((m.txn : Int) % 2) = ((m.txn % 2 : Nat) : Int) by omega] at h
    exact h)
  have HVS : Hid (m.l.map (fun v : Nat => (v : Int)) = [(m.txn : Int), m.root, m.free, m.pages]) := Lib.hid rfl
  clear ho hu hat
  go_enter Tryd.func12, Tryd.ntmps12
  go_wp2_with fail
  refine (HO.out _).mono ?_
  rintro e w1 ⟨rfl, hb1⟩
  have hr : ∀ i, i < 4 → w1.cell? ⟨w.heap.size, i, none⟩ = some (.int .i64 0) ∧ w1.frozen? ⟨w.heap.size, i, none⟩ = false := fun i hi => by
    have hlt : w.heap.size < (w.alloc (.cells #[.int .i64 0, .int .i64 0, .int .i64 0, .int .i64 0] 23)).heap.size := by simp
    have h := heap_alloc_new w (.cells #[.int .i64 0, .int .i64 0, .int .i64 0, .int .i64 0] 23)
    refine ⟨(hb1.cell (p := ⟨w.heap.size, i, none⟩) hlt).trans ?_, (hb1.frozen (p := ⟨w.heap.size, i, none⟩) hlt).trans ?_⟩
    · rw [cell_of_row _ _ _ _ _ _ h]
      match i, hi with
      | 0, _ => rfl
      | 1, _ => rfl
      | 2, _ => rfl
      | 3, _ => rfl
    · unfold World.frozen?
      rw [h]
      simp

  have HR1 := Lib.hid hr
  have HB1 : Hid (Below w.heap.size w w1) := Lib.hid (((Below.refl _ w).alloc (Nat.le_refl _) _).trans (hb1.mono (by simp)))
  have HZ1 : Hid (w.heap.size < w1.heap.size) := Lib.hid (by have := hb1.size; simp at this; omega)
  clear hb1 hr
  have hbs : ((body.size : Int) != 24) = false := by rw [hms]; rfl
  clear hms
  have hbc : (w1.alloc (.cells #[.int .i64 1, .int .i64 0, .string body] 54)).cell? ⟨w1.heap.size, 2, none⟩ = some (.string body) := by go_simp
  have hF0 : Fr (fun _ => False) w1 (w1.alloc (.cells #[.int .i64 1, .int .i64 0, .string body] 54)) := (Fr.refl (fun _ => False) w1).alloc _
  have hz0 : (w1.alloc (.cells #[.int .i64 1, .int .i64 0, .string body] 54)).heap.size = w1.heap.size + 1 := by simp
  have HBC := Lib.hid hbc
  have HF0 := Lib.hid hF0
  have HZ0 := Lib.hid hz0
  clear hbc hF0 hz0
  go_wp2
  clear hbs
  generalize w1.alloc (.cells #[.int .i64 1, .int .i64 0, .string body] 54) = W0 at *
  go_loopw [8, 9] (fun lv i wr => ∃ k : Nat, k ≤ 4 ∧ i = .int .i64 k ∧ Hid (wr.ownsRow (w1.heap.size + 1) 3 1 lv k (rowOf ncells ((m.l.map (fun v : Nat => (v : Int))).take k)) ∧ Below W0.heap.size W0 wr)) (fun _ i _ => 4 - (intOf i).toNat)
  case atStart => exact ⟨0, Nat.zero_le _, rfl, Lib.hid ⟨World.ownsRow_nil _ _ _ _, Below.refl _ _⟩⟩
  case round =>
    obtain ⟨k, hk, rfl, hrel⟩ := hrel
    obtain ⟨lp, lc, hlv⟩ := owns_slice hrel.out.1
    subst hlv
    have HREL : Hid (wr.ownsRow (w1.heap.size + 1) 3 1 (.slice lp k lc) k (rowOf ncells ((m.l.map (fun v : Nat => (v : Int))).take k)) ∧ Below W0.heap.size W0 wr) := hrel
    clear hrel
    by_cases hk4 : k < 4
    · have hy := (HREL.out.2.cell (p := ⟨w1.heap.size, 2, none⟩) (by have := HZ0.out; show w1.heap.size < _; omega)).trans HBC.out
      have HU := Lib.hid (HUX.out k hk4)
      rw [show ((k * 6 : Nat) : Int) = 6 * (k : Int) by omega] at HU
      have HE : Hid ((m.l.map (fun v : Nat => (v : Int))).take (k + 1) = (m.l.map (fun v : Nat => (v : Int))).take k ++ [((HL.el m.l k : Nat) : Int)]) := Lib.hid (by
        match k, hk4 with
        | 0, _ => rfl
        | 1, _ => rfl
        | 2, _ => rfl
        | 3, _ => rfl)
      have hsz : w1.heap.size + 1 ≤ wr.heap.size := by have h1 := HZ0.out; have h2 := HREL.out.2.size; omega
      generalize HL.el m.l k = v at *
      go_wp2_with fail
      refine (HU.out _).mono ?_
      rintro e w2 ⟨rfl, rfl⟩
      have HRD : Hid (RdG ncells (w2.alloc (.cells #[.int .i64 (v : Int)] 3)) (w2.alloc (.cells #[.int .i64 (v : Int)] 3)).heap.size (some ⟨w2.heap.size, 0, none⟩) 1 [(v : Int)]) := Lib.hid ⟨rfl, fun _ => ⟨w2.heap.size, 0, rfl, by simp, fun j u hu => by
        have e := new_cells w2 [.int .i64 (v : Int)] 3 j u hu
        rw [add_at0] at e
        rw [Nat.zero_add]
        exact e⟩⟩
      go_wp2_with (at_builtin; refine RowT.app in_T rfl _ _ rfl (w1.heap.size + 1) (.slice lp k lc) k (rowOf ncells ((m.l.map (fun v : Nat => (v : Int))).take k)) rfl (HREL.out.1.alloc _) (m := 1) (zs := [(v : Int)]) rfl HRD.out (fun h => by cases h) (by omega) (by simp; omega) ?_; intro v3 w3 hown3 hgr3 _; have HO3 : Hid (w3.ownsRow (w1.heap.size + 1) 3 1 v3 (k + 1) (rowOf ncells ((m.l.map (fun v : Nat => (v : Int))).take (k + 1)))) := Lib.hid (by rw [HE.out, rowOf_append]; exact hown3); have HB3 : Hid (Below W0.heap.size W0 w3) := Lib.hid ((HREL.out.2.alloc HREL.out.2.size _).grown hgr3 (by simp; have := HREL.out.2.size; omega) (fun j hj => by have := (HREL.out.1.lt j hj).1; have := HZ0.out; omega)); clear hown3 hgr3)
      go_wp2
      go_roundw
      case rel => exact ⟨k + 1, by omega, by go_num, Lib.hid ⟨HO3.out, HB3.out⟩⟩
      case measure => simp [intOf]; omega
    · obtain rfl : k = 4 := by omega
      have ho4 := HREL.out.1
      rw [show (m.l.map (fun v : Nat => (v : Int))).take 4 = [(m.txn : Int), m.root, m.free, m.pages] from rfl] at ho4
      obtain ⟨g, cap, hv, hg1, hg2, hg3⟩ := owns_len ho4 (by omega)
      injection hv with hv1 _ hv3
      subst hv1 hv3
      have q0 : wr.cell? ⟨g, 0, none⟩ = some (.int .i64 m.txn) := (ho4.cellAt 0 (by omega)).trans rfl
      have q1 : wr.cell? ⟨g, 1, none⟩ = some (.int .i64 m.root) := (ho4.cellAt 1 (by omega)).trans rfl
      have q2 : wr.cell? ⟨g, 2, none⟩ = some (.int .i64 m.free) := (ho4.cellAt 2 (by omega)).trans rfl
      have q3 : wr.cell? ⟨g, 3, none⟩ = some (.int .i64 m.pages) := (ho4.cellAt 3 (by omega)).trans rfl
      have hfr : Fr (fun _ => False) w1 wr := Fr.trans HF0.out (Fr.of_all (S := fun _ => False) HREL.out.2) (fun _ h _ => h)
      have hrr := fun i (hi : i < 4) => And.intro ((hfr.cell (p := ⟨w.heap.size, i, none⟩) HZ1.out (fun h => h)).trans (HR1.out i hi).1) ((hfr.frozen (p := ⟨w.heap.size, i, none⟩) HZ1.out (fun h => h)).trans (HR1.out i hi).2)
      obtain ⟨r0, s0⟩ := hrr 0 (by omega)
      obtain ⟨r1, s1⟩ := hrr 1 (by omega)
      obtain ⟨r2, s2⟩ := hrr 2 (by omega)
      obtain ⟨r3, s3⟩ := hrr 3 (by omega)
      have HFW : Hid (Below w.heap.size w wr) := Lib.hid (HB1.out.trans (hfr.below (by have := HZ1.out; omega) (fun i hi => hi.elim)))
      have hz9 : w.heap.size < wr.heap.size := by have := hfr.size; have := HZ1.out; omega
      clear ho4 hg1 hg3 hrr hfr HREL
      have hne := HAT.out
      generalize hmt : ((m.txn % 2 : Nat) : Int) = mt at *
      clear hmt
      go_wp2_with fail
      refine (HPL.out _).mono ?_
      rintro e w2 ⟨rfl, rfl⟩
      go_wp2
      obtain ⟨x0, x1, x2, x3⟩ := cells4m (v0 := .int .i64 0) (v1 := .int .i64 0) (v2 := .int .i64 0) (v3 := .int .i64 0) r0 r1 r2 r3
      exact bodyPost_ret (v := .tuple #[mtv ⟨0, 0, 0, 0⟩, .int .i64 4]) (by simp [results, Tryd.results12, go_sem, mtv, x0, x1, x2, x3]) rfl ⟨rfl, (((HFW.out.setCell (p := ⟨w.heap.size, 0, none⟩) (Nat.le_refl _) _).setCell (p := ⟨w.heap.size, 1, none⟩) (Nat.le_refl _) _).setCell (p := ⟨w.heap.size, 2, none⟩) (Nat.le_refl _) _).setCell (p := ⟨w.heap.size, 3, none⟩) (Nat.le_refl _) _⟩

end Go.Proofs.YtpoiopjggmhnjaaDoor

/- arboretumref1: PutMeta, of room or of none. -/
namespace Go.Proofs.YtpoiopjggmhnjaaDoor
open Go.RowKit

set_option maxHeartbeats 1000000 in
set_option maxRecDepth 100000 in
theorem ref_fix_big (v n : Nat) (w : World) (hv : ¬ v < 2 ^ (8 * n)) (h1 : 1 ≤ n) (h2 : n ≤ 7) (hm : (v : Int) ≤ 9223372036854775807) :
    Calls Tryd.prog 28 #[.int .i64 v, .int .i64 n] w fun e w' => e = .returned (.tuple #[.string ByteArray.empty, .int .i64 1]) ∧ Below w.heap.size w w' := by
  obtain ⟨i0, hi0, hz0, hz1, hz2⟩ := info_parts info_u8
  have HV0 : Hid (0 < v / 2 ^ (8 * n)) := Lib.hid (Nat.div_pos (by omega) (Nat.pow_pos (by omega)))
  clear hv
  go_enter Tryd.func28, Tryd.ntmps28
  go_wp2
  go_loopw [0, 6, 7] (fun vv bv iv wr => ∃ i : Nat, i ≤ n ∧ iv = .int .i64 i ∧ vv = .int .i64 (v / 2 ^ (8 * i) : Nat) ∧ Below w.heap.size w wr ∧ wr.ownsRow w.heap.size 5 1 bv i (fcells v i)) (fun _ _ iv _ => n - (intOf iv).toNat)
  case atStart => exact ⟨0, by omega, rfl, by simp, Below.refl _ _, World.ownsRow_nil _ _ _ _⟩
  case round =>
    obtain ⟨i, hi, rfl, rfl, hb, ho⟩ := hrel
    obtain ⟨q, cp, rfl⟩ := owns_slice ho
    have HB := Lib.hid hb
    have HO := Lib.hid ho
    have hsz := hb.size
    clear hb ho
    by_cases hlt : i < n
    · have HN : Hid (fcells v (i + 1) = fcells v i ++ [.int .u8 (((v / 2 ^ (8 * i) : Nat) : Int) % 256)]) := Lib.hid (by rw [fcells_succ]; simp)
      have HP : Hid (v / 2 ^ (8 * (i + 1)) = v / 2 ^ (8 * i) / 256) := Lib.hid (pow_next v i)
      have hvi : ((v / 2 ^ (8 * i) : Nat) : Int) ≤ 9223372036854775807 := by
        have : v / 2 ^ (8 * i) ≤ v := Nat.div_le_self _ _
        omega
      generalize v / 2 ^ (8 * i) = x at *
      go_wp2_with (at_builtin; refine wpList_append_own _ rfl _ _ 29 rfl w.heap.size 5 i0 _ 1 1 Tryd.underlying29 hi0 hz0 hz1 hz2 rfl (by omega) (.slice q i cp) i (fcells v i) rfl ?own ⟨wr.heap.size, 0, none⟩ 1 1 [.int .u8 ((x : Int) % 256)] rfl rfl ?cells ?one ?len ?bytes ?base ?_; (case own => exact HO.out.alloc _); (case cells => exact new_cells wr _ _); (case one => simp [Value.oneCell']); (case len => unfold maxLen; omega); (case bytes => omega); (case base => simp; omega); intro v8 w8 hown hgr _; have HOW := Lib.hid hown; have HGR := Lib.hid hgr; clear hown hgr)
      have HBE : Hid (Below w.heap.size w w8) := Lib.hid ((HB.out.alloc hsz _).grown HGR.out (by simp; omega) (fun g hg => (HO.out.lt g hg).1))
      have HOE : Hid (w8.ownsRow w.heap.size 5 1 v8 (i + 1) (fcells v (i + 1))) := Lib.hid (by rw [HN.out]; exact HOW.out)
      clear HOW HGR HO HB
      go_wp2
      go_roundw
      case rel => exact ⟨i + 1, by omega, by go_num, by rw [HP.out]; simp, HBE.out, HOE.out⟩
      case measure => simp [intOf]; omega
    · obtain rfl : i = n := by omega
      have hx := HV0.out
      generalize v / 2 ^ (8 * i) = x at *
      have hxI : (0 : Int) < (x : Int) := by omega
      go_wp2
      go_ret2
      exact ⟨rfl, HB.out⟩

set_option maxRecDepth 100000 in
theorem ref_fix_neg (v : Int) (w : World) (hv : v < 0) : Calls Tryd.prog 28 #[.int .i64 v, .int .i64 6] w fun e w' => e = .returned (.tuple #[.string ByteArray.empty, .int .i64 1]) ∧ Below w.heap.size w w' := by
  go_enter Tryd.func28, Tryd.ntmps28
  go_wp2
  go_ret2
  exact ⟨rfl, Below.refl _ _⟩
theorem ref_fix_bad (v : Int) (w : World) (hv : ¬ ok48 v) (hm : v ≤ 9223372036854775807) : Calls Tryd.prog 28 #[.int .i64 v, .int .i64 6] w fun e w' => e = .returned (.tuple #[.string ByteArray.empty, .int .i64 1]) ∧ Below w.heap.size w w' := by
  rcases Int.lt_or_le v 0 with h | h
  · exact ref_fix_neg v w h
  · obtain ⟨u, rfl⟩ := Int.eq_ofNat_of_zero_le h
    exact ref_fix_big u 6 w (by unfold ok48 at hv; omega) (by omega) (by omega) hm

set_option maxHeartbeats 2000000 in
set_option maxRecDepth 100000 in
theorem ref_put_ok (m : Mt) (w : World) (hm : m.ok) : Calls Tryd.prog 8 #[mtv m] w fun e w' => e = .returned (.tuple #[.string (metaP m), .int .i64 0]) ∧ Below w.heap.size w w' := by
  have hok := Lib.hid hm
  have HPL : Hid (∀ w, Calls Tryd.prog 10 #[.int .i64 m.txn] w fun e w' => e = .returned (.int .i64 ((m.txn % 2 : Nat) : Int)) ∧ w' = w) := Lib.hid (fun w => by
    have h := ref_place m.txn w
    rw [show ((m.txn : Int) % 2) = ((m.txn % 2 : Nat) : Int) by omega] at h
    exact h)
  have HSE := Lib.hid (fun w => ref_seal (m.txn % 2) 0 1 (metaS m.l) w (by omega) (by omega) (by omega) (by omega) (by rw [metaS_size]; simp [Mt.l]))
  have hcell : ∀ k, k < 4 → (#[Value.int .i64 m.txn, .int .i64 m.root, .int .i64 m.free, .int .i64 m.pages])[k]? = some (.int .i64 (HL.el m.l k : Nat)) := by
    intro k hk
    match k, hk with
    | 0, _ => rfl
    | 1, _ => rfl
    | 2, _ => rfl
    | 3, _ => rfl
  have HCL := Lib.hid hcell
  clear hm hcell
  unfold mtv
  go_enter Tryd.func8, Tryd.ntmps8
  go_wp2
  have hcs : ∀ k, k < 4 → (((w.alloc (.cells #[.int .i64 m.txn, .int .i64 m.root, .int .i64 m.free, .int .i64 m.pages] 23)).alloc (.cells #[.int .i64 m.txn, .int .i64 m.root, .int .i64 m.free, .int .i64 m.pages] 3))).cell? ⟨w.heap.size + 1, k, none⟩ = some (.int .i64 (HL.el m.l k : Nat)) := by
    intro k hk
    have h := heap_alloc_new (w.alloc (.cells #[.int .i64 m.txn, .int .i64 m.root, .int .i64 m.free, .int .i64 m.pages] 23)) (.cells #[.int .i64 m.txn, .int .i64 m.root, .int .i64 m.free, .int .i64 m.pages] 3)
    rw [World.size_alloc] at h
    rw [cell_of_row _ _ _ _ _ _ h]
    exact HCL.out k hk
  have ht0 : (((w.alloc (.cells #[.int .i64 m.txn, .int .i64 m.root, .int .i64 m.free, .int .i64 m.pages] 23)).alloc (.cells #[.int .i64 m.txn, .int .i64 m.root, .int .i64 m.free, .int .i64 m.pages] 3))).cell? ⟨w.heap.size, 0, none⟩ = some (.int .i64 m.txn) := by clear hcs; go_simp
  have hbw : Below w.heap.size w ((w.alloc (.cells #[.int .i64 m.txn, .int .i64 m.root, .int .i64 m.free, .int .i64 m.pages] 23)).alloc (.cells #[.int .i64 m.txn, .int .i64 m.root, .int .i64 m.free, .int .i64 m.pages] 3)) := ((Below.refl _ w).alloc (Nat.le_refl _) _).alloc (by simp) _
  have hsz : ((w.alloc (.cells #[.int .i64 m.txn, .int .i64 m.root, .int .i64 m.free, .int .i64 m.pages] 23)).alloc (.cells #[.int .i64 m.txn, .int .i64 m.root, .int .i64 m.free, .int .i64 m.pages] 3)).heap.size = w.heap.size + 2 := by simp
  generalize ((w.alloc (.cells #[.int .i64 m.txn, .int .i64 m.root, .int .i64 m.free, .int .i64 m.pages] 23)).alloc (.cells #[.int .i64 m.txn, .int .i64 m.root, .int .i64 m.free, .int .i64 m.pages] 3)) = W0 at *
  have HC0 := Lib.hid hcs
  have HT0 := Lib.hid ht0
  have HB0 := Lib.hid hbw
  have HZ0 : Hid (w.heap.size + 2 ≤ W0.heap.size) := Lib.hid (by omega)
  clear hcs ht0 hbw hsz HCL
  go_loopw [5, 6] (fun bd i wr => ∃ k : Nat, k ≤ 4 ∧ i = .int .i64 k ∧ bd = .string (metaS (m.l.take k)) ∧ Hid (Below W0.heap.size W0 wr)) (fun _ i _ => 4 - (intOf i).toNat)
  case atStart => exact ⟨0, Nat.zero_le _, rfl, rfl, Lib.hid (Below.refl _ _)⟩
  case round =>
    obtain ⟨k, hk, rfl, rfl, hrel⟩ := hrel
    have hlen : (m.l.take k).length = k := by rw [List.length_take]; simp [Mt.l]; omega
    by_cases hk4 : k < 4
    · have hcx := (hrel.out.cell (p := ⟨w.heap.size + 1, k, none⟩) (by have := HZ0.out; show w.heap.size + 1 < _; omega)).trans (HC0.out k hk4)
      have HFX := Lib.hid (fun w => ref_fix (HL.el m.l k) 6 w (by have := hok.out k hk4; omega) (by omega) (by omega) (by have := hok.out k hk4; omega))
      have HTK : Hid (metaS (m.l.take k) ++ fixS (HL.el m.l k) 6 = metaS (m.l.take (k + 1))) := Lib.hid (by
        rw [metaS_snoc, List.take_succ_eq_append_getElem (show k < m.l.length by simp [Mt.l]; omega)]
        simp [HL.el, List.getD, show k < m.l.length by simp [Mt.l]; omega])
      have hs1 : (metaS (m.l.take k)).size ≤ 24 := by rw [metaS_size, hlen]; omega
      have hs2 : (fixS (HL.el m.l k) 6).size = 6 := fixS_size _ _
      have hbig : ¬ 9223372036854775807 < (metaS (m.l.take k)).size + (fixS (HL.el m.l k) 6).size := by omega
      have HB1 : Hid (Below W0.heap.size W0 wr) := hrel
      clear hs2 hlen hrel
      generalize HL.el m.l k = v at *
      go_wp2_with fail
      refine (HFX.out _).mono ?_
      rintro e w1 ⟨rfl, hb1⟩
      have HB2 := Lib.hid (HB1.out.trans (hb1.mono HB1.out.size))
      clear hb1
      go_wp2
      rw [HTK.out]
      go_roundw
      case rel => exact ⟨k + 1, by omega, by go_num, rfl, HB2⟩
      case measure => simp [intOf]; omega
    · obtain rfl : k = 4 := by omega
      have HML : Hid (metaS (m.l.take 4) = metaS m.l) := Lib.hid rfl
      rw [HML.out]
      have ht := (hrel.out.cell (p := ⟨w.heap.size, 0, none⟩) (by have := HZ0.out; show w.heap.size < _; omega)).trans HT0.out
      have HB1 : Hid (Below W0.heap.size W0 wr) := hrel
      clear hrel hlen
      go_wp2_with fail
      refine (HPL.out _).mono ?_
      rintro e w1 ⟨rfl, rfl⟩
      go_wp2_with fail
      refine (HSE.out _).mono ?_
      rintro e w2 ⟨rfl, hb2⟩
      go_wp2
      go_ret2
      exact ⟨rfl, HB0.out.trans ((HB1.out.trans (hb2.mono HB1.out.size)).mono HB0.out.size)⟩
set_option maxHeartbeats 2000000 in
set_option maxRecDepth 100000 in
theorem ref_put_bad (a b c d : Int) (w : World) (h : ∃ k, k < 4 ∧ ¬ ok48 (q4 a b c d k)) (hwq : ∀ k, k < 4 → q4 a b c d k ≤ 9223372036854775807) : Calls Tryd.prog 8 #[.agg #[.int .i64 a, .int .i64 b, .int .i64 c, .int .i64 d]] w fun e w' => e = .returned (.tuple #[.string ByteArray.empty, .int .i64 1]) ∧ Below w.heap.size w w' := by
  have hcell : ∀ k, k < 4 → (#[Value.int .i64 a, .int .i64 b, .int .i64 c, .int .i64 d])[k]? = some (.int .i64 (q4 a b c d k)) := by
    intro k hk
    match k, hk with
    | 0, _ => rfl
    | 1, _ => rfl
    | 2, _ => rfl
    | 3, _ => rfl
  have HCL := Lib.hid hcell
  have HBAD := Lib.hid h
  have HEM : Hid ((ByteArray.mk #[]).size ≤ 6 * 0) := Lib.hid (by simp [ByteArray.size])
  have HWQ := Lib.hid hwq
  clear hcell h hwq
  go_enter Tryd.func8, Tryd.ntmps8
  go_wp2
  have hcs : ∀ k, k < 4 → (((w.alloc (.cells #[.int .i64 a, .int .i64 b, .int .i64 c, .int .i64 d] 23)).alloc (.cells #[.int .i64 a, .int .i64 b, .int .i64 c, .int .i64 d] 3))).cell? ⟨w.heap.size + 1, k, none⟩ = some (.int .i64 (q4 a b c d k)) := by
    intro k hk
    have h := heap_alloc_new (w.alloc (.cells #[.int .i64 a, .int .i64 b, .int .i64 c, .int .i64 d] 23)) (.cells #[.int .i64 a, .int .i64 b, .int .i64 c, .int .i64 d] 3)
    rw [World.size_alloc] at h
    rw [cell_of_row _ _ _ _ _ _ h]
    exact HCL.out k hk
  have hbw : Below w.heap.size w ((w.alloc (.cells #[.int .i64 a, .int .i64 b, .int .i64 c, .int .i64 d] 23)).alloc (.cells #[.int .i64 a, .int .i64 b, .int .i64 c, .int .i64 d] 3)) := ((Below.refl _ w).alloc (Nat.le_refl _) _).alloc (by simp) _
  have hsz : ((w.alloc (.cells #[.int .i64 a, .int .i64 b, .int .i64 c, .int .i64 d] 23)).alloc (.cells #[.int .i64 a, .int .i64 b, .int .i64 c, .int .i64 d] 3)).heap.size = w.heap.size + 2 := by simp
  generalize ((w.alloc (.cells #[.int .i64 a, .int .i64 b, .int .i64 c, .int .i64 d] 23)).alloc (.cells #[.int .i64 a, .int .i64 b, .int .i64 c, .int .i64 d] 3)) = W0 at *
  have HC0 := Lib.hid hcs
  have HB0 := Lib.hid hbw
  have HZ0 : Hid (w.heap.size + 2 ≤ W0.heap.size) := Lib.hid (by omega)
  clear hcs hbw hsz HCL
  go_loopw [5, 6] (fun bd i wr => ∃ (k : Nat) (s : ByteArray), k ≤ 4 ∧ i = .int .i64 k ∧ bd = .string s ∧ Hid (s.size ≤ 6 * k) ∧ Hid (∀ j, j < k → ok48 (q4 a b c d j)) ∧ Hid (Below W0.heap.size W0 wr)) (fun _ i _ => 4 - (intOf i).toNat)
  case atStart => exact ⟨0, ⟨#[]⟩, Nat.zero_le _, rfl, rfl, HEM, Lib.hid (fun j hj => absurd hj (Nat.not_lt_zero j)), Lib.hid (Below.refl _ _)⟩
  case round =>
    obtain ⟨k, s, hk, rfl, rfl, hs, hok, hrel⟩ := hrel
    by_cases hk4 : k < 4
    · have hcx := (hrel.out.cell (p := ⟨w.heap.size + 1, k, none⟩) (by have := HZ0.out; show w.heap.size + 1 < _; omega)).trans (HC0.out k hk4)
      have HV : Hid ((∃ v : Nat, q4 a b c d k = v ∧ v < 2 ^ 48) ∨ ¬ ok48 (q4 a b c d k)) := Lib.hid (by
        by_cases hv : ok48 (q4 a b c d k)
        · obtain ⟨v, hv2⟩ := Int.eq_ofNat_of_zero_le hv.1
          exact .inl ⟨v, hv2, by have := hv.2; rw [hv2] at this; omega⟩
        · exact .inr hv)
      have hok' : Hid (ok48 (q4 a b c d k) → ∀ j, j < k + 1 → ok48 (q4 a b c d j)) := Lib.hid (fun h j hj => by
        rcases Nat.lt_or_ge j k with h1 | h1
        · exact hok.out j h1
        · obtain rfl : j = k := by omega
          exact h)
      clear hok
      have HWV := Lib.hid (HWQ.out k hk4)
      generalize q4 a b c d k = v at *
      have HB1 : Hid (Below W0.heap.size W0 wr) := hrel
      clear hrel
      rcases HV.out with ⟨u, rfl, hu⟩ | hv
      · have HFX := Lib.hid (fun w => ref_fix u 6 w (by omega) (by omega) (by omega) (by omega))
        have hs1 : s.size ≤ 24 := by have := hs.out; omega
        have hs2 : (fixS u 6).size = 6 := fixS_size _ _
        have hbig : ¬ 9223372036854775807 < s.size + (fixS u 6).size := by omega
        have HS : Hid ((s ++ fixS u 6).size ≤ 6 * (k + 1)) := Lib.hid (by rw [ByteArray.size_append, hs2]; have := hs.out; omega)
        have HK : Hid (∀ j, j < k + 1 → ok48 (q4 a b c d j)) := Lib.hid (hok'.out ⟨by omega, by omega⟩)
        clear hs2 hs hok' HV hu
        go_wp2_with fail
        refine (HFX.out _).mono ?_
        rintro e w1 ⟨rfl, hb1⟩
        have HB2 := Lib.hid (HB1.out.trans (hb1.mono HB1.out.size))
        clear hb1
        go_wp2
        go_roundw
        case rel => exact ⟨k + 1, _, by omega, by go_num, rfl, HS, HK, HB2⟩
        case measure => simp [intOf]; omega
      · have HFX := Lib.hid (fun w => ref_fix_bad v w hv HWV.out)
        clear hs hok' HV hv
        go_wp2_with fail
        refine (HFX.out _).mono ?_
        rintro e w1 ⟨rfl, hb1⟩
        have HB2 := Lib.hid (HB1.out.trans (hb1.mono HB1.out.size))
        clear hb1
        go_wp2
        go_ret2
        exact ⟨rfl, HB0.out.trans (HB2.out.mono HB0.out.size)⟩
    · obtain rfl : k = 4 := by omega
      obtain ⟨j, hj, hn⟩ := HBAD.out
      exact absurd (hok.out j hj) hn
end Go.Proofs.YtpoiopjggmhnjaaDoor

/- meta and arboretumref1: what both answer, of any meta, of any page. -/
namespace Go.Proofs.YtpoiopjggmhnjaaDoor
open Go.RowKit

/-- Get of both. -/
def GetA (at' : Int) (b : ByteArray) (t r f p c : Int) : Prop :=
  (∀ w, Calls Tryd.prog 11 #[.int .i64 at', .string b] w fun e w' => e = .returned (.tuple #[.agg #[.int .i64 t, .int .i64 r, .int .i64 f, .int .i64 p], .int .i64 c]) ∧ Below w.heap.size w w') ∧
  (∀ w, Calls Tryd.prog 12 #[.int .i64 at', .string b] w fun e w' => e = .returned (.tuple #[.agg #[.int .i64 t, .int .i64 r, .int .i64 f, .int .i64 p], .int .i64 c]) ∧ Below w.heap.size w w') ∧ (c = 0 → t % 2 = at') ∧ 0 ≤ t ∧ 0 ≤ r ∧ 0 ≤ f ∧ 0 ≤ p ∧ (c ≠ 0 → t = 0 ∧ r = 0 ∧ f = 0 ∧ p = 0)

theorem four_of (f : Nat → Nat) : ∃ m : Mt, ∀ k, k < 4 → f k = HL.el m.l k :=
  ⟨⟨f 0, f 1, f 2, f 3⟩, fun k hk => by
    match k, hk with
    | 0, _ => rfl
    | 1, _ => rfl
    | 2, _ => rfl
    | 3, _ => rfl⟩

theorem get_both (at' : Int) (b : ByteArray) : ∃ t r f p c : Int, GetA at' b t r f p c := by
  rcases openA_cases at' b with ⟨c, hc, h⟩ | ⟨k, nx, bd, h⟩
  · refine ⟨0, 0, 0, 0, c, fun w => meta_get_err at' c b hc (Lib.hid fun w => ?_) w, fun w => ref_get_err at' c b hc (Lib.hid fun w => ?_) w, fun e => absurd e hc, by omega, by omega, by omega, by omega, fun _ => ⟨rfl, rfl, rfl, rfl⟩⟩
    · rw [← h]; exact page_open_any at' b w
    · rw [← h]; exact ref_open_any at' b w
  · have hP : ∀ w, Calls Tryd.prog 30 #[.int .i64 at', .string b] w fun e w' => e = .returned (.tuple #[.agg #[.int .i64 k, .int .i64 nx, .string bd], .int .i64 0]) ∧ Below w.heap.size w w' := fun w => by
      have := page_open_any at' b w
      rw [h] at this
      exact this
    have hR : ∀ w, Calls Tryd.prog 32 #[.int .i64 at', .string b] w fun e w' => e = .returned (.tuple #[.agg #[.int .i64 k, .int .i64 nx, .string bd], .int .i64 0]) ∧ Below w.heap.size w w' := fun w => by
      have := ref_open_any at' b w
      rw [h] at this
      exact this
    by_cases hf : k = 1 ∧ nx = 0 ∧ bd.size = 24
    · obtain ⟨rfl, rfl, hs⟩ := hf
      obtain ⟨m, hu⟩ : ∃ m : Mt, ∀ k, k < 4 → unfixN bd (k * 6) 6 = HL.el m.l k := by
        exact four_of (fun k => unfixN bd (k * 6) 6)
      have hok : m.ok := fun k hk => by
        rw [← hu k hk]
        exact unfixN_lt bd (k * 6) 6
      by_cases hat : at' = ((m.txn % 2 : Nat) : Int)
      · exact ⟨m.txn, m.root, m.free, m.pages, 0, fun w => meta_get_body m hok at' b bd hs hP hu hat w, fun w => ref_get_body m at' b bd hs hR hu hat w, fun _ => by omega, by omega, by omega, by omega, by omega, fun h => absurd rfl h⟩
      · exact ⟨0, 0, 0, 0, 4, fun w => meta_get_place m hok at' b bd hs hP hu hat w, fun w => ref_get_place m at' b bd hs hR hu (by rw [bne_iff_ne]; exact fun e => hat e.symm) w, fun e => by omega, by omega, by omega, by omega, by omega, fun _ => ⟨rfl, rfl, rfl, rfl⟩⟩
    · have hk : (k != 1) = true ∨ (k != 1) = false ∧ (nx != 0) = true ∨ (k != 1) = false ∧ (nx != 0) = false ∧ ((bd.size : Int) != 24) = true := by
        by_cases h1 : k = 1
        · by_cases h2 : nx = 0
          · refine .inr (.inr ⟨by simp [h1], by simp [h2], ?_⟩)
            rw [bne_iff_ne]
            exact fun e => hf ⟨h1, h2, by omega⟩
          · exact .inr (.inl ⟨by simp [h1], by rw [bne_iff_ne]; exact h2⟩)
        · exact .inl (by rw [bne_iff_ne]; exact h1)
      exact ⟨0, 0, 0, 0, 4, fun w => meta_get_form at' k nx b bd hk (Lib.hid hP) w, fun w => ref_get_form at' k nx b bd hk (Lib.hid hR) w, fun e => by omega, by omega, by omega, by omega, by omega, fun _ => ⟨rfl, rfl, rfl, rfl⟩⟩

/-- Put of both. -/
def PutA (a b c d : Int) (S : ByteArray) (c' : Int) : Prop :=
  (∀ w, Calls Tryd.prog 7 #[.agg #[.int .i64 a, .int .i64 b, .int .i64 c, .int .i64 d]] w fun e w' => e = .returned (.tuple #[.string S, .int .i64 c']) ∧ Below w.heap.size w w') ∧
  (∀ w, Calls Tryd.prog 8 #[.agg #[.int .i64 a, .int .i64 b, .int .i64 c, .int .i64 d]] w fun e w' => e = .returned (.tuple #[.string S, .int .i64 c']) ∧ Below w.heap.size w w') ∧ (c' = 0 → S.size = 256) ∧ (S.size = 0 ∨ S.size = 256)

theorem metaP_size (m : Mt) : (metaP m).size = 256 := sealS_size _ _ _ _ (by rw [metaS_size]; simp [Mt.l])

theorem put_both (a b c d : Int) (ha : a ≤ 9223372036854775807) (hb : b ≤ 9223372036854775807) (hc : c ≤ 9223372036854775807) (hd : d ≤ 9223372036854775807) : ∃ S c', PutA a b c d S c' := by
  by_cases h : ∃ k, k < 4 ∧ ¬ ok48 (q4 a b c d k)
  · exact ⟨ByteArray.empty, 1, fun w => meta_put_bad a b c d w h, fun w => ref_put_bad a b c d w h (fun k hk => by
      match k, hk with
      | 0, _ => exact ha
      | 1, _ => exact hb
      | 2, _ => exact hc
      | 3, _ => exact hd), fun e => by omega, .inl rfl⟩
  · have hk : ∀ k, k < 4 → ok48 (q4 a b c d k) := fun k hk => Classical.byContradiction (fun hn => h ⟨k, hk, hn⟩)
    have h0 : ok48 a := hk 0 (by omega)
    have h1 : ok48 b := hk 1 (by omega)
    have h2 : ok48 c := hk 2 (by omega)
    have h3 : ok48 d := hk 3 (by omega)
    obtain ⟨a, rfl⟩ := Int.eq_ofNat_of_zero_le h0.1
    obtain ⟨b, rfl⟩ := Int.eq_ofNat_of_zero_le h1.1
    obtain ⟨c, rfl⟩ := Int.eq_ofNat_of_zero_le h2.1
    obtain ⟨d, rfl⟩ := Int.eq_ofNat_of_zero_le h3.1
    have hm : Mt.ok ⟨a, b, c, d⟩ := Mt.ok_of (by have := h0.2; simp only; omega) (by have := h1.2; simp only; omega) (by have := h2.2; simp only; omega) (by have := h3.2; simp only; omega)
    exact ⟨_, 0, fun w => meta_put ⟨a, b, c, d⟩ w hm, fun w => ref_put_ok ⟨a, b, c, d⟩ w hm, fun _ => metaP_size _, .inr (metaP_size _)⟩
end Go.Proofs.YtpoiopjggmhnjaaDoor

