/- arboretumlaw7.PagerFull: the walk. -/
import Derived.Test.YtoagbcbkaloacaaGreatDoorGAlive
namespace Go.Proofs.YtoagbcbkaloacaaGreatDoor
open Go.RowKit Go.Maps Go.Conc

theorem seal_ok {id next kind : Int} {body : ByteArray} (h1 : 0 ≤ id) (h2 : id < 4294967296) (h3 : 0 ≤ next) (h4 : next ≤ 4294967295) (h5 : 1 ≤ kind) (h6 : kind ≤ 255) (h7 : body.size ≤ 240) : sealCode id next kind body = 0 := by
  unfold sealCode
  rw [if_neg (by simp only [Classical.not_not]; exact ⟨h1, h2, h3, by omega, h5, h6⟩), if_neg (by omega)]

set_option maxHeartbeats 2000000 in
set_option maxRecDepth 100000 in
theorem pfull_no (most kind next : Int) (body : ByteArray) (w : World) (h : most < 3 ∨ 40 < most ∨ 240 < body.size ∨ kind < 1 ∨ 255 < kind ∨ next < 0 ∨ 4294967295 < next) (hb : body.size ≤ 9223372036854775807) :
    Calls Tryz.prog 3 #[.int .i64 most, .agg #[.int .i64 kind, .int .i64 next, .string body]] w fun e w' => e = .returned (.bool true) ∧ Below w.heap.size w w' := by
  have HA := Lib.hid (fun w => galive_true w)
  have HB0 := Lib.hid ((Below.refl w.heap.size w).alloc (Nat.le_refl _) (.cells #[.int .i64 kind, .int .i64 next, .string body] 23))
  have h6 : most < 3 ∨ (¬ most < 3 ∧ 40 < most) ∨ (¬ most < 3 ∧ ¬ 40 < most ∧ 240 < body.size) ∨ (¬ most < 3 ∧ ¬ 40 < most ∧ ¬ 240 < body.size ∧ kind < 1) ∨ (¬ most < 3 ∧ ¬ 40 < most ∧ ¬ 240 < body.size ∧ ¬ kind < 1 ∧ 255 < kind) ∨ (¬ most < 3 ∧ ¬ 40 < most ∧ ¬ 240 < body.size ∧ ¬ kind < 1 ∧ ¬ 255 < kind ∧ next < 0) ∨ (¬ most < 3 ∧ ¬ 40 < most ∧ ¬ 240 < body.size ∧ ¬ kind < 1 ∧ ¬ 255 < kind ∧ ¬ next < 0 ∧ 4294967295 < next) := by omega
  clear h
  rcases h6 with h1 | ⟨h1, h2⟩ | ⟨h1, h2, h3⟩ | ⟨h1, h2, h3, h4⟩ | ⟨h1, h2, h3, h4, h5⟩ | ⟨h1, h2, h3, h4, h5, h6⟩ | ⟨h1, h2, h3, h4, h5, h6, h7⟩
  all_goals
    go_enter Tryz.func3, Tryz.ntmps3
    go_wp2_with fail
    refine (HA.out _).mono ?_
    rintro e w3 ⟨rfl, hb3⟩
    have HB : Hid (Below w.heap.size w w3) := Lib.hid (HB0.out.trans (hb3.mono (by simp)))
    clear hb3
    go_wp2
    go_ret
    exact ⟨rfl, HB.out⟩

theorem full_none {pb base m : Nat} {A : List (Int × Value)} {w0 w : World} (k n : Int) (b : ByteArray) (h : FullI pb base m m A w0 w) (hm : m ≤ 3000) (hc : sealCode (m : Int) n k b = 0) (hb : b.size ≤ 1000000) :
    Calls Tryz.prog 10 #[.pointer (some ⟨pb, 0, none⟩), .agg #[.int .i64 k, .int .i64 n, .string b]] w fun e w' => e = .returned (.tuple #[.int .i64 0, .int .i64 10]) ∧ FullI pb base m m A w0 w' := by
  obtain ⟨s, U, hP, hF, hA, hW, hB⟩ := h
  have hnm := hF.nm
  refine (pg_make k n b hP (by rw [hF.nw, hF.most]; omega) (by rw [hF.most]; omega) (by rw [hF.pages, hF.nw]; exact Nat.le_refl _) (by rw [hF.next]; exact int_wf (by omega) (by omega)) hb (by omega)).mono ?_
  rintro e w' ⟨s', U', hM, hP', hS⟩
  obtain ⟨he, rfl⟩ := hF.none hc hM
  exact ⟨he, _, U', hP', hF, hA, hW, hP.bel hS hB⟩

set_option maxHeartbeats 4000000 in
set_option maxRecDepth 100000 in
theorem pfull_yes (m : Nat) (kind next : Int) (body : ByteArray) (w : World) (h1 : 3 ≤ m) (h2 : m ≤ 40) (h3 : body.size ≤ 240) (h4 : 1 ≤ kind) (h5 : kind ≤ 255) (h6 : 0 ≤ next) (h7 : next ≤ 4294967295) :
    Calls Tryz.prog 3 #[.int .i64 m, .agg #[.int .i64 kind, .int .i64 next, .string body]] w fun e w' => e = .returned (.bool true) ∧ Below w.heap.size w w' := by
  have HSC : Hid (∀ i : Nat, i ≤ 40 → sealCode (i : Int) next kind body = 0) := Lib.hid (fun i hi => seal_ok (by omega) (by omega) h6 h7 h4 h5 h3)
  have HA := Lib.hid (fun w => galive_true w)
  have hb0 : Below w.heap.size w (w.alloc (.cells #[.int .i64 kind, .int .i64 next, .string body] 23)) := (Below.refl w.heap.size w).alloc (Nat.le_refl _) _
  have hz0 : (w.alloc (.cells #[.int .i64 kind, .int .i64 next, .string body] 23)).heap.size = w.heap.size + 1 := by simp
  have hrow := heap_alloc_new w (.cells #[.int .i64 kind, .int .i64 next, .string body] 23)
  have HX : Hid (∀ W, Below (w.heap.size + 1) (w.alloc (.cells #[.int .i64 kind, .int .i64 next, .string body] 23)) W → W.cell? ⟨w.heap.size, 0, none⟩ = some (.int .i64 kind) ∧ W.cell? ⟨w.heap.size, 1, none⟩ = some (.int .i64 next) ∧ W.cell? ⟨w.heap.size, 2, none⟩ = some (.string body) ∧ Below w.heap.size w W) := Lib.hid (fun W hW => ⟨(hW.cell (p := ⟨w.heap.size, 0, none⟩) (by show w.heap.size < _; omega)).trans (by rw [cell_of_row _ _ _ _ _ _ hrow]; rfl), (hW.cell (p := ⟨w.heap.size, 1, none⟩) (by show w.heap.size < _; omega)).trans (by rw [cell_of_row _ _ _ _ _ _ hrow]; rfl), (hW.cell (p := ⟨w.heap.size, 2, none⟩) (by show w.heap.size < _; omega)).trans (by rw [cell_of_row _ _ _ _ _ _ hrow]; rfl), hb0.trans (hW.mono (by omega))⟩)
  have HBS := Lib.hid (base_nil m 2 (w.alloc (.cells #[.int .i64 kind, .int .i64 next, .string body] 23)) (by omega) (by omega) (by omega))
  have HZ0 := Lib.hid hz0
  have HBZ : Hid (body.size ≤ 1000000) := Lib.hid (by omega)
  have g1 : ¬ ((m : Int) < 3) := by omega
  have g2 : ¬ ((40 : Int) < (m : Int)) := by omega
  have g3 : ¬ (240 < body.size) := by omega
  have g4 : ¬ (kind < 1) := by omega
  have g5 : ¬ (255 < kind) := by omega
  have g6 : ¬ (next < 0) := by omega
  have g7 : ¬ (4294967295 < next) := by omega
  clear h3 h4 h5 h6 h7 hb0 hz0 hrow
  go_enter Tryz.func3, Tryz.ntmps3
  go_wp2_with fail
  refine HBS.out.mono ?_
  rintro e w1 hR
  obtain ⟨db, rb, fb, rf, rfl, hN⟩ := full_new m _ w1 e hR
  rw [HZ0.out] at hN
  have HN := Lib.hid hN
  clear hR hN HBS g1 g2 g3 g4 g5 g6 g7
  go_wp2_with fail
  refine HN.out.mono ?_
  rintro e w2 ⟨pb, rfl, hI⟩
  have HI := Lib.hid hI
  clear hI HN
  go_wp2
  generalize hW0 : (w.alloc (.cells #[.int .i64 kind, .int .i64 next, .string body] 23)) = W0 at *
  clear hW0
  go_loopw [12, 13, 14] (fun iv _ _ wr => ∃ (i : Nat) (A : List (Int × Value)), 2 ≤ i ∧ i ≤ m ∧ iv = .int .i64 i ∧ Hid (FullI pb (w.heap.size + 1) m i A W0 wr) ∧ Hid (2 < i → (2 : Int) ∈ A.map (·.1))) (fun iv _ _ _ => m - (intOf iv).toNat)
  case atStart => exact ⟨2, [], Nat.le_refl _, by omega, rfl, HI, Lib.hid (fun h => absurd h (by omega))⟩
  case round =>
    clear HI
    obtain ⟨i, A, hi2, him, rfl, hI, hin⟩ := hrel
    obtain ⟨x0, x1, x2, hbw⟩ := HX.out wr (by obtain ⟨_, _, _, _, _, _, hB⟩ := hI.out; exact hB)
    by_cases hlt : i < m
    · have HM := Lib.hid (full_make kind next body hI.out hlt (by omega) (HSC.out i (by omega)) HBZ.out)
      have HIN : Hid ((2 : Int) ∈ (((i : Int), pgv kind next body) :: A).map (·.1)) := Lib.hid (by
        rcases Nat.lt_or_ge 2 i with h | h
        · exact List.mem_cons_of_mem _ (hin.out h)
        · obtain rfl : i = 2 := by omega
          simp)
      have hq : ((i : Int) != (i : Int)) = false := by simp
      clear hI hin hbw
      go_wp2_with fail
      refine HM.out.mono ?_
      rintro e w3 ⟨rfl, hI3⟩
      have HI3 := Lib.hid hI3
      clear hI3 HM x0 x1 x2
      go_wp2
      go_roundw
      case rel => exact ⟨i + 1, _, by omega, by omega, by go_num, HI3, Lib.hid (fun _ => HIN.out)⟩
      case measure => simp [intOf]; omega
    · obtain rfl : i = m := by omega
      have HM := Lib.hid (full_none kind next body hI.out (by omega) (HSC.out i (by omega)) HBZ.out)
      have HIN := hin
      clear hI hin hbw
      go_wp2_with fail
      refine HM.out.mono ?_
      rintro e w3 ⟨rfl, s, U, hP, hF, hA, hW, hB⟩
      have HPG := Lib.hid (pg_pages hP)
      rw [hF.pages] at HPG
      have HMD := Lib.hid (pg_made hP (by have := hF.nm; omega) (by have := hF.len; omega))
      rw [show s.A.length = i - 2 by have := hF.len; omega] at HMD
      have HP := Lib.hid hP
      have HF := Lib.hid hF
      have HAA := Lib.hid hA
      have HB := Lib.hid hB
      have hq1 : IntKind.i64.wrap ((i : Int) - 2) = (i : Int) - 2 := IntWalk.i64_in _ ⟨by omega, by omega⟩
      have hq2 : (((i - 2 : Nat) : Int) != (i : Int) - 2) = false := by rw [bne_eq_false_iff_eq]; omega
      have hq3 : ((i : Int) != (i : Int)) = false := by simp
      clear hP hF hA hW hB HM x0 x1 x2
      go_wp2_with fail
      refine HPG.out.mono ?_
      rintro e w4 ⟨rfl, rfl⟩
      go_wp2_with fail
      refine HMD.out.mono ?_
      rintro e w5 ⟨u, rfl, ho, hb5⟩
      obtain ⟨up, uc, rfl⟩ := owns_slice ho
      have hP5 := HP.out.below hb5
      have HDR := Lib.hid (pg_drop_own 2 hP5 (by decide) (by omega) (by rw [HF.out.pages]; omega) HF.out.pg (by rw [HAA.out]; exact HIN.out (by omega)) (by rw [HF.out.l]; simp) (by rw [HF.out.sp]; simp) (by have := HF.out.nm; omega))
      have HB5 : Hid (Below (w.heap.size + 1) W0 w5) := Lib.hid (HB.out.trans (hb5.mono (by have := HB.out.size; have := HZ0.out; omega)))
      have HP5 := Lib.hid hP5
      clear ho hb5 hP5 HPG HMD HB HP
      go_wp2_with fail
      refine HDR.out.mono ?_
      rintro e w6 ⟨rfl, s6, U6, hD, hP6, hS6⟩
      obtain ⟨hG, _⟩ := HF.out.drop hD
      have HMK := Lib.hid (pg_make kind next body hP6 (by rw [hG.nw, hG.most]; omega) (by rw [hG.most]; omega) (by rw [hG.pages, hG.nw]; exact Nat.le_refl _) (by rw [hG.next]; decide) HBZ.out (by have := hG.nm; omega))
      have hB6 := HP5.out.bel hS6 HB5.out
      obtain ⟨y0, y1, y2, _⟩ := HX.out w6 hB6
      have HB6 := Lib.hid hB6
      have HG := Lib.hid hG
      have HP6 := Lib.hid hP6
      clear hD hP6 hS6 hG HDR HB5 HP5 hB6 hq1 hq2 hq3
      go_wp2_with fail
      refine HMK.out.mono ?_
      rintro e w7 ⟨s7, U7, hM, hP7, hS7⟩
      obtain ⟨rfl, _⟩ := HG.out.make (HSC.out 2 (by omega)) hM
      have HB7 := Lib.hid (HX.out w7 (HP6.out.bel hS7 HB6.out)).2.2.2
      clear hM hP7 hS7 HMK HB6 HG HP6 y0 y1 y2
      go_wp2_with fail
      refine (HA.out _).mono ?_
      rintro e w8 ⟨rfl, hb8⟩
      have HB8 := Lib.hid (HB7.out.trans (hb8.mono HB7.out.size))
      clear hb8
      go_wp2
      go_ret
      exact ⟨rfl, HB8.out⟩

theorem pagerFull_walk (most kind next : Int) (body : ByteArray) (w : World) (hb : body.size ≤ maxLen) :
    Calls Tryz.prog 3 #[.int .i64 most, .agg #[.int .i64 kind, .int .i64 next, .string body]] w fun e w' => e = .returned (.bool true) ∧ Below w.heap.size w w' := by
  by_cases hno : most < 3 ∨ 40 < most ∨ 240 < body.size ∨ kind < 1 ∨ 255 < kind ∨ next < 0 ∨ 4294967295 < next
  · exact pfull_no most kind next body w hno (by unfold maxLen at hb; omega)
  · obtain ⟨m, rfl⟩ : ∃ m : Nat, most = m := ⟨most.toNat, by omega⟩
    exact pfull_yes m kind next body w (by omega) (by omega) (by omega) (by omega) (by omega) (by omega) (by omega)
end Go.Proofs.YtoagbcbkaloacaaGreatDoor
