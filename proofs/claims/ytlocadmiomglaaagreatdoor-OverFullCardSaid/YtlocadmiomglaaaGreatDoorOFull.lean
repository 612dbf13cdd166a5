/- arboretumlaw10.OverFull: the walk. -/
import Derived.Test.YtlocadmiomglaaaGreatDoorONone
namespace Go.Proofs.YtlocadmiomglaaaGreatDoor
open Go.RowKit Go.Maps Go.Conc

set_option maxHeartbeats 1000000 in
set_option maxRecDepth 100000 in
theorem ofull_no (v : ByteArray) (most : Int) (w : World) (h : v.size < 1 ∨ 2000 < v.size ∨ most < 3 ∨ 20 < most) (hv : v.size ≤ 9223372036854775807) :
    Calls Tryz.prog 5 #[.string v, .int .i64 most] w fun e w' => e = .returned (.bool true) ∧ Below w.heap.size w w' := by
  have HA := Lib.hid (fun w => oalive_true w)
  have h4 : (v.size : Int) < 1 ∨ (¬ (v.size : Int) < 1 ∧ 2000 < (v.size : Int)) ∨ (¬ (v.size : Int) < 1 ∧ ¬ 2000 < (v.size : Int) ∧ most < 3) ∨ (¬ (v.size : Int) < 1 ∧ ¬ 2000 < (v.size : Int) ∧ ¬ most < 3 ∧ 20 < most) := by omega
  clear h
  rcases h4 with h1 | ⟨h1, h2⟩ | ⟨h1, h2, h3⟩ | ⟨h1, h2, h3, h4⟩
  all_goals
    go_enter Tryz.func5, Tryz.ntmps5
    go_wp2_with fail
    refine (HA.out _).mono ?_
    rintro e w3 ⟨rfl, hb3⟩
    have HB := Lib.hid hb3
    clear hb3
    go_wp2
    go_ret
    exact ⟨rfl, HB.out⟩

set_option maxHeartbeats 4000000 in
set_option maxRecDepth 100000 in
theorem ofull_yes (v : ByteArray) (m : Nat) (w : World) (hv1 : 1 ≤ v.size) (hv2 : v.size ≤ 2000) (hm1 : 3 ≤ m) (hm2 : m ≤ 20) :
    Calls Tryz.prog 5 #[.string v, .int .i64 m] w fun e w' => e = .returned (.bool true) ∧ Below w.heap.size w w' := by
  have HA := Lib.hid (fun w => oalive_true w)
  have HBS := Lib.hid (base_nil m 2 w (by omega) (by omega) (by omega))
  have g1 : ¬ ((v.size : Int) < 1) := by omega
  have g2 : ¬ ((2000 : Int) < (v.size : Int)) := by omega
  have g3 : ¬ ((m : Int) < 3) := by omega
  have g4 : ¬ ((20 : Int) < (m : Int)) := by omega
  have HV := Lib.hid (And.intro hv1 hv2)
  have HM := Lib.hid (And.intro hm1 hm2)
  clear hv1 hv2 hm1 hm2
  go_enter Tryz.func5, Tryz.ntmps5
  go_wp2_with fail
  refine HBS.out.mono ?_
  rintro e w1 hR
  obtain ⟨db, rb, fb, rf, rfl, hN⟩ := ov_new m (by have := HM.out; omega) w w1 e hR
  have HN := Lib.hid hN
  clear hR hN HBS g1 g2 g3 g4
  go_wp2_with fail
  refine HN.out.mono ?_
  rintro e w2 ⟨pb, rfl, s, U, hO, hA, hsp, hpg⟩
  have HO := Lib.hid hO
  have HRM : Hid (room m s = m - 2) := Lib.hid (by unfold room; rw [hsp, hpg]; simp)
  have HA0 : Hid (s.A = []) := Lib.hid hA
  have HN9 : Hid (cutN v ≤ 9) := Lib.hid (by unfold cutN; have := HV.out; omega)
  have hq1 : Int.tdiv ((v.size : Int) + 239) 240 = (cutN v : Int) := by
    unfold cutN
    rw [Int.tdiv_eq_ediv_of_nonneg (by omega)]
    omega
  have hq2 : (m : Int) - 2 = ((m - 2 : Nat) : Int) := by have := HM.out; omega
  have hv2 := HV.out.2
  have hm2 := HM.out.2
  have hm1 := HM.out.1
  have hn9 := HN9.out
  clear hO hA hsp hpg HN
  by_cases hr : m - 2 < cutN v
  · have hr2 : ((m - 2 : Nat) : Int) < (cutN v : Int) := by omega
    have HPT := Lib.hid (ow_put_full HO.out (by have := HM.out; omega) (by omega) v HV.out.1 HV.out.2 (by rw [HRM.out]; exact hr))
    go_wp2_with fail
    refine HPT.out.mono ?_
    rintro e w3 ⟨rfl, s3, U3, hO3, _, hA3⟩
    have HO3 := Lib.hid hO3
    have HA3 : Hid (s3.A = []) := Lib.hid (hA3.trans HA0.out)
    clear hO3 hA3 HPT HO
    go_wp2_with fail
    refine (HA.out _).mono ?_
    rintro e w4 ⟨rfl, hb4⟩
    have HO4 := Lib.hid (HO3.out.later hb4)
    have hmd := pg_made HO4.out.pg (by have := HO4.out.ov.nm; have := HN9.out; omega) (by rw [HA3.out]; simp)
    rw [HA3.out] at hmd
    have HMD := Lib.hid hmd
    clear hb4 hmd
    go_wp2_with fail
    refine HMD.out.mono ?_
    rintro e w5 ⟨u, rfl, ho5, hb5⟩
    obtain ⟨up, uc, rfl⟩ := owns_slice ho5
    have HB5 := Lib.hid (HO4.out.later hb5).below
    clear ho5 hb5
    go_wp2
    go_ret
    exact ⟨rfl, HB5.out⟩
  · have hr2 : ¬ ((m - 2 : Nat) : Int) < (cutN v : Int) := by omega
    have HPT := Lib.hid (ow_put_ok HO.out (by have := HM.out; omega) (by omega) v HV.out.1 HV.out.2 (by rw [HRM.out]; omega))
    go_wp2_with fail
    refine HPT.out.mono ?_
    rintro e w3 ⟨s3, U3, is, rfl, hO3, _, hL3⟩
    have HO3 := Lib.hid hO3
    have HA3 : Hid (s3.A.length = cutN v) := Lib.hid (by
      have h9 := hL3.keys (Nat.le_refl _)
      have h8 := congrArg List.length h9
      unfold kys at h8
      rw [HA0.out, List.length_append, List.length_map, hL3.len] at h8
      simpa using h8)
    clear hO3 hL3 HPT HO
    generalize HL.el is 0 = id at *
    go_wp2_with fail
    refine (HA.out _).mono ?_
    rintro e w4 ⟨rfl, hb4⟩
    have HO4 := Lib.hid (HO3.out.later hb4)
    have hmd := pg_made HO4.out.pg (by have := HO4.out.ov.nm; have := HN9.out; omega) (by rw [HA3.out]; have := HN9.out; omega)
    rw [HA3.out] at hmd
    have HMD := Lib.hid hmd
    clear hb4 hmd
    go_wp2_with fail
    refine HMD.out.mono ?_
    rintro e w5 ⟨u, rfl, ho5, hb5⟩
    obtain ⟨up, uc, rfl⟩ := owns_slice ho5
    have HO5 := Lib.hid (HO4.out.later hb5)
    have HCU := Lib.hid (over_cut v w5 (by have := HV.out; omega))
    clear ho5 hb5
    go_wp2_with fail
    refine HCU.out.mono ?_
    rintro e w6 ⟨u, rfl, ho6, hb6⟩
    obtain ⟨tp, tc, rfl⟩ := owns_slice ho6
    have HB6 := Lib.hid (HO5.out.later hb6).below
    clear ho6 hb6
    go_wp2
    go_ret
    exact ⟨rfl, HB6.out⟩

theorem overFull_walk (v : ByteArray) (most : Int) (w : World) (hv : v.size ≤ maxLen) :
    Calls Tryz.prog 5 #[.string v, .int .i64 most] w fun e w' => e = .returned (.bool true) ∧ Below w.heap.size w w' := by
  by_cases hno : v.size < 1 ∨ 2000 < v.size ∨ most < 3 ∨ 20 < most
  · exact ofull_no v most w hno (by unfold maxLen at hv; omega)
  · obtain ⟨m, rfl⟩ : ∃ m : Nat, most = m := ⟨most.toNat, by omega⟩
    exact ofull_yes v m w (by omega) (by omega) (by omega) (by omega)
end Go.Proofs.YtlocadmiomglaaaGreatDoor
