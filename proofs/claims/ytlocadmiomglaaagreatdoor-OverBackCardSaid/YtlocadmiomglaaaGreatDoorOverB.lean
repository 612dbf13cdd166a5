/- arboretumlaw10.OverBack: the walk. -/
import Derived.Test.YtlocadmiomglaaaGreatDoorONone
namespace Go.Proofs.YtlocadmiomglaaaGreatDoor
open Go.RowKit Go.Maps Go.Conc

set_option maxHeartbeats 1000000 in
set_option maxRecDepth 100000 in
theorem oback_no (v u : ByteArray) (w : World) (h : 2100 < v.size ∨ 2000 < u.size ∨ u.size = 0) (hv : v.size ≤ 9223372036854775807) (hu : u.size ≤ 9223372036854775807) :
    Calls Tryz.prog 4 #[.string v, .string u] w fun e w' => e = .returned (.bool true) ∧ Below w.heap.size w w' := by
  have HA := Lib.hid (fun w => oalive_true w)
  have h4 : 2100 < (v.size : Int) ∨ (¬ 2100 < (v.size : Int) ∧ 2000 < (u.size : Int)) ∨ (¬ 2100 < (v.size : Int) ∧ ¬ 2000 < (u.size : Int) ∧ (u.size : Int) = 0) := by omega
  clear h
  rcases h4 with h1 | ⟨h1, h2⟩ | ⟨h1, h2, h3⟩
  all_goals
    go_enter Tryz.func4, Tryz.ntmps4
    go_wp2_with fail
    refine (HA.out _).mono ?_
    rintro e w3 ⟨rfl, hb3⟩
    have HB := Lib.hid hb3
    clear hb3
    go_wp2
    go_ret
    exact ⟨rfl, HB.out⟩

set_option maxHeartbeats 4000000 in
set_option maxRecDepth 100000 in
/-- The value has no place. -/
theorem oback_bad (v u : ByteArray) (w : World) (hv : v.size = 0 ∨ 2000 < v.size) (hv2 : v.size ≤ 2100) (hu1 : 1 ≤ u.size) (hu2 : u.size ≤ 2000) :
    Calls Tryz.prog 4 #[.string v, .string u] w fun e w' => e = .returned (.bool true) ∧ Below w.heap.size w w' := by
  have HA := Lib.hid (fun w => oalive_true w)
  have HBS := Lib.hid (base_nil 60 2 w (by omega) (by omega) (by omega))
  have HPB := Lib.hid (fun pb w => over_put_bad pb v w hv)
  have g1 : ¬ ((2100 : Int) < (v.size : Int)) := by omega
  have g2 : ¬ ((2000 : Int) < (u.size : Int)) := by omega
  have g3 : ¬ ((u.size : Int) = 0) := by omega
  have g4 : ((v.size : Int) == 0) = true ∨ (((v.size : Int) == 0) = false ∧ 2000 < (v.size : Int)) := by
    rcases hv with h | h
    · exact .inl (by rw [h]; rfl)
    · exact .inr ⟨beq_false_of_ne (by omega), by omega⟩
  have g6 : ((u.size : Int) == 0) = false := beq_false_of_ne (by omega)
  clear hv hu1 hu2 g3
  rcases g4 with g4 | ⟨g4, g5⟩
  all_goals
    go_enter Tryz.func4, Tryz.ntmps4
    go_wp2_with fail
    refine HBS.out.mono ?_
    rintro e w1 hR
    obtain ⟨db, rb, fb, rf, rfl, hN⟩ := ov_new 60 (by omega) w w1 e hR
    have HN := Lib.hid hN
    clear hR hN HBS
    go_wp2_with fail
    refine HN.out.mono ?_
    rintro e w2 ⟨pb, rfl, s, U, hO, hA, hsp, hpg⟩
    have HO := Lib.hid hO
    have HPP := Lib.hid hpg
    clear hO hA hsp hpg HN
    go_wp2_with fail
    refine (HPB.out pb _).mono ?_
    rintro e w3 ⟨rfl, hb3⟩
    have HO3 := Lib.hid (HO.out.later hb3)
    clear hb3 HO HPB
    go_wp2_with fail
    refine (HA.out _).mono ?_
    rintro e w4 ⟨rfl, hb4⟩
    have HO4 := Lib.hid (HO3.out.later hb4)
    have hpgs := pg_pages HO4.out.pg
    rw [HPP.out] at hpgs
    have HPGS := Lib.hid hpgs
    clear hb4 hpgs
    go_wp2_with fail
    refine HPGS.out.mono ?_
    rintro e w5 ⟨rfl, rfl⟩
    have HB5 := Lib.hid HO4.out.below
    go_wp2
    go_ret
    exact ⟨rfl, HB5.out⟩

/-- What the second part of the walk leans on. -/
structure BackS (pb : Nat) (w0 : World) (v u : ByteArray) (s : PgS) (U : Nat → Prop) (is js : List Int) (w : World) : Prop where
  ow : OvW pb 60 100 w0 s U w
  cv : Chain s.A is (cutL v)
  cu : Chain s.A js (cutL u)
  nd : is.Nodup
  apart : ∀ i ∈ js, i ∉ is
  room : Go.Proofs.YtlocadmiomglaaaGreatDoor.room 60 s + cutN v + cutN u = 58

theorem PutL.keep {m j : Nat} {s0 s : PgS} {v : ByteArray} {is : List Int} (h : PutL m s0 s v j is) {js : List Int} {ps : List ByteArray} (hc : Chain s0.A js ps) : Chain s.A js ps :=
  hc.keep (fun i _ x hx => by rw [h.A]; exact List.mem_append_right _ hx)

theorem back_two {pb k : Nat} {w0 w' : World} {v u : ByteArray} {s s1 s2 : PgS} {U2 : Nat → Prop} {is js : List Int} (hO2 : OvW pb 60 k w0 s2 U2 w') (hk : k ≤ 100) (hA : s.A = []) (hR : Go.Proofs.YtlocadmiomglaaaGreatDoor.room 60 s = 58) (h1 : PutL 60 s s1 v (cutN v) is) (h2 : PutL 60 s1 s2 u (cutN u) js) : BackS pb w0 v u s2 U2 is js w' := by
  have k1 := h1.keys (Nat.le_refl _)
  have k2 := h2.keys (Nat.le_refl _)
  have hnd := hO2.ov.knd
  have e0 : kys s = [] := by unfold kys; rw [hA]; rfl
  rw [e0, List.append_nil] at k1
  rw [k1] at k2
  rw [k2] at hnd
  obtain ⟨_, hn2, hn3⟩ := List.nodup_append.1 hnd
  refine ⟨⟨hO2.pg, hO2.ov.mono hk, hO2.below⟩, h2.keep h1.chain, h2.chain, hn2, fun i hi hj => hn3 i hi i hj rfl, ?_⟩
  have := h1.room
  have := h2.room
  omega

/-- What stands behind the drop. -/
structure BackD (pb : Nat) (w0 : World) (v u : ByteArray) (pages : Nat) (s : PgS) (U : Nat → Prop) (is js : List Int) (w : World) : Prop where
  ow : OvW pb 60 200 w0 s U w
  cu : Chain s.A js (cutL u)
  pages : s.pages = pages
  sp : cutN v ≤ s.sp.length
  head : 2 ≤ HL.el is 0 ∧ HL.el is 0 < (s.pages : Int) ∧ HL.el is 0 ∉ kys s ∧ HL.el is 0 ∈ s.W
theorem back_drop {pb kk : Nat} {w0 w w' : World} {v u : ByteArray} {s s3 : PgS} {U U3 : Nat → Prop} {is js : List Int} (h : BackS pb w0 v u s U is js w) (hO : OvW pb 60 kk w0 s3 U3 w') (hkk : kk ≤ 200) (hD : DropS 60 kk s s3 is) (hpos : 0 < cutN v) : BackD pb w0 v u s.pages s3 U3 is js w' := by
  have hl := h.cv.1
  rw [cutL_length] at hl
  have hin : HL.el is 0 ∈ is := el_mem (by omega)
  have hk : HL.el is 0 ∈ kys s := by
    have hin2 : HL.el is 0 ∈ (entOf is (cutL v)).map (·.1) := by rw [entOf_keys h.cv.1]; exact hin
    obtain ⟨x, hx, hx2⟩ := List.mem_map.1 hin2
    exact List.mem_map.2 ⟨x, h.cv.2 x hx, hx2⟩
  have hb := h.ow.ov.keys _ hk
  refine ⟨⟨hO.pg, hO.ov.mono hkk, hO.below⟩, h.cu.keep (fun i hi x hx => (hD.A (i, x)).2 ⟨hx, h.apart i hi⟩), hD.pages, by rw [hD.sp, hl]; omega, hb.1, by rw [hD.pages]; exact hb.2, fun hno => ?_, hD.W _ hin⟩
  obtain ⟨x, hx, hx2⟩ := List.mem_map.1 hno
  exact ((hD.A x).1 hx).2 (by rw [hx2]; exact hin)

set_option maxHeartbeats 8000000 in
set_option maxRecDepth 100000 in
theorem oback_yes (v u : ByteArray) (w : World) (hv1 : 1 ≤ v.size) (hv2 : v.size ≤ 2000) (hu1 : 1 ≤ u.size) (hu2 : u.size ≤ 2000) :
    Calls Tryz.prog 4 #[.string v, .string u] w fun e w' => e = .returned (.bool true) ∧ Below w.heap.size w w' := by
  have HA := Lib.hid (fun w => oalive_true w)
  have HBS := Lib.hid (base_nil 60 2 w (by omega) (by omega) (by omega))
  have g1 : ¬ ((2100 : Int) < (v.size : Int)) := by omega
  have g2 : ¬ ((2000 : Int) < (u.size : Int)) := by omega
  have g3 : ((u.size : Int) == 0) = false := beq_false_of_ne (by omega)
  have g4 : ((v.size : Int) == 0) = false := beq_false_of_ne (by omega)
  have g5 : ¬ ((2000 : Int) < (v.size : Int)) := by omega
  have HV := Lib.hid (And.intro hv1 hv2)
  have HU := Lib.hid (And.intro hu1 hu2)
  have HNV : Hid (1 ≤ cutN v ∧ cutN v ≤ 9) := Lib.hid (by unfold cutN; omega)
  have HNU : Hid (1 ≤ cutN u ∧ cutN u ≤ 9) := Lib.hid (by unfold cutN; omega)
  have hq1 : Int.tdiv ((v.size : Int) + 239) 240 = (cutN v : Int) := by
    unfold cutN
    rw [Int.tdiv_eq_ediv_of_nonneg (by omega)]
    omega
  have hn9 := HNV.out.2
  clear hv1 hu1 hu2
  go_enter Tryz.func4, Tryz.ntmps4
  go_wp2_with fail
  refine HBS.out.mono ?_
  rintro e w1 hR
  obtain ⟨db, rb, fb, rf, rfl, hN⟩ := ov_new 60 (by omega) w w1 e hR
  have HN := Lib.hid hN
  clear hR hN HBS g1 g2 g3
  go_wp2_with fail
  refine HN.out.mono ?_
  rintro e w2 ⟨pb, rfl, s, U, hO, hA, hsp, hpg⟩
  have HO := Lib.hid hO
  have HRM : Hid (room 60 s = 58) := Lib.hid (by unfold room; rw [hsp, hpg]; rfl)
  have HA0 : Hid (s.A = []) := Lib.hid hA
  have HPT := Lib.hid (ow_put_ok HO.out (by omega) (by omega) v HV.out.1 HV.out.2 (by rw [HRM.out]; omega))
  clear hO hA hsp hpg HN HO
  go_wp2_with fail
  refine HPT.out.mono ?_
  rintro e w3 ⟨s3, U3, is, rfl, hO3, _, hL3⟩
  have HL3 := Lib.hid hL3
  have HPT2 := Lib.hid (ow_put_ok hO3 (by omega) (by omega) u HU.out.1 HU.out.2 (by have := hL3.room; have := HRM.out; have := HNU.out; omega))
  have HBK : Hid (∀ s4 U4 js w4, OvW pb 60 (0 + 2 * cutN v + 2 * cutN u) w s4 U4 w4 → PutL 60 s3 s4 u (cutN u) js → BackS pb w v u s4 U4 is js w4) := Lib.hid (fun s4 U4 js w4 a1 a2 => back_two a1 (by have := HNU.out; omega) HA0.out HRM.out HL3.out a2)
  clear hO3 hL3 HPT HL3 HRM HA0
  have hgen : ∃ n, n = HL.el is 0 := ⟨_, rfl⟩
  obtain ⟨i1, hi1⟩ := hgen
  rw [← hi1]
  have HI1 := Lib.hid hi1
  clear hi1
  go_wp2_with fail
  refine HPT2.out.mono ?_
  rintro e w4 ⟨s4, U4, js, rfl, hO4, _, hL4⟩
  have HS4 := Lib.hid (HBK.out s4 U4 js w4 hO4 hL4)
  obtain ⟨j1, hj1⟩ : ∃ n, n = HL.el js 0 := ⟨_, rfl⟩
  rw [← hj1]
  have HJ1 := Lib.hid hj1
  have HG1 : Hid (∀ W, Below w4.heap.size w4 W → Calls Tryz.prog 8 #[.pointer (some ⟨pb, 0, none⟩), .int .i64 i1, .int .i64 v.size] W fun e w' => e = .returned (.tuple #[.string v, .int .i64 0]) ∧ Below W.heap.size W w') := Lib.hid (fun W hW => by
    rw [HI1.out]
    exact ow_get (HS4.out.ow.later hW) (by omega) HS4.out.cv HV.out.1 HV.out.2)
  have HG2 : Hid (∀ W, Below w4.heap.size w4 W → Calls Tryz.prog 8 #[.pointer (some ⟨pb, 0, none⟩), .int .i64 j1, .int .i64 u.size] W fun e w' => e = .returned (.tuple #[.string u, .int .i64 0]) ∧ Below W.heap.size W w') := Lib.hid (fun W hW => by
    rw [HJ1.out]
    exact ow_get (HS4.out.ow.later hW) (by omega) HS4.out.cu HU.out.1 HU.out.2)
  have HG3 : Hid (∀ W, Below w4.heap.size w4 W → Calls Tryz.prog 9 #[.pointer (some ⟨pb, 0, none⟩), .int .i64 i1, .int .i64 v.size] W fun e w' => ∃ p c, e = .returned (.tuple #[.slice p (cutN v) c, .int .i64 0]) ∧ Below W.heap.size W w') := Lib.hid (fun W hW => by
    rw [HI1.out]
    exact ow_pages (HS4.out.ow.later hW) (by omega) HS4.out.cv HV.out.1 HV.out.2)
  clear hO4 hL4 HBK HPT2 hj1
  go_wp2_with fail
  refine (HG1.out _ (Below.refl _ _)).mono ?_
  rintro e w5 ⟨rfl, hb5⟩
  have HB5 := Lib.hid hb5
  clear hb5 HG1
  go_wp2_with fail
  refine (HG2.out _ HB5.out).mono ?_
  rintro e w6 ⟨rfl, hb6⟩
  have HB6 := Lib.hid (HB5.out.trans (hb6.mono HB5.out.size))
  clear hb6 HG2 HB5
  go_wp2_with fail
  refine (HG3.out _ HB6.out).mono ?_
  rintro e w7 ⟨p7, c7, rfl, hb7⟩
  have HB7 : Hid (Below w4.heap.size w4 w7) := Lib.hid (HB6.out.trans (hb7.mono HB6.out.size))
  have HS7 : Hid (OvW pb 60 100 w s4 U4 w7) := Lib.hid (HS4.out.ow.later HB7.out)
  have HPGS := Lib.hid (pg_pages HS7.out.pg)
  have HDR : Hid (Calls Tryz.prog 11 #[.pointer (some ⟨pb, 0, none⟩), .int .i64 i1, .int .i64 v.size] w7 fun e w' => e = .returned (.int .i64 0) ∧ ∃ s8 U8, BackD pb w v u s4.pages s8 U8 is js w') := Lib.hid (by
    rw [HI1.out]
    refine (ow_drop HS7.out (by omega) (by omega) HS4.out.cv HS4.out.nd HV.out.1 HV.out.2).mono ?_
    rintro e w8 ⟨he, s8, U8, hO8, _, hD8⟩
    exact ⟨he, s8, U8, back_drop HS4.out hO8 (by have := HNV.out; omega) hD8 HNV.out.1⟩)
  have hss : (v.toList == v.toList) = true := by simp
  have huu : (u.toList == u.toList) = true := by simp
  clear hb7 HG3 HB6 HB7 HS7
  generalize s4.pages = pages at *
  go_wp2_with fail
  refine HPGS.out.mono ?_
  rintro e w8 ⟨rfl, rfl⟩
  clear HPGS hq1 hn9
  go_wp2_with fail
  refine HDR.out.mono ?_
  rintro e w9 ⟨rfl, s9, U9, hD9⟩
  have HD9 := Lib.hid hD9
  have HGN : Hid (Calls Tryz.prog 8 #[.pointer (some ⟨pb, 0, none⟩), .int .i64 i1, .int .i64 v.size] w9 fun e w' => e = .returned (.tuple #[.string ByteArray.empty, .int .i64 7]) ∧ Below w9.heap.size w9 w') := Lib.hid (by
    rw [HI1.out]
    exact ow_gone hD9.ow (by omega) HV.out.1 HV.out.2 hD9.head.1 hD9.head.2.1 hD9.head.2.2.1 hD9.head.2.2.2)
  clear hD9 HDR HS4
  go_wp2_with fail
  refine HGN.out.mono ?_
  rintro e w10 ⟨rfl, hb10⟩
  have HO10 := Lib.hid (HD9.out.ow.later hb10)
  have HPT3 := Lib.hid (ow_put_ok HO10.out (by omega) (by omega) v HV.out.1 HV.out.2 (by have := HD9.out.sp; unfold room; omega))
  clear hb10 HGN
  go_wp2_with fail
  refine HPT3.out.mono ?_
  rintro e w11 ⟨s11, U11, ks, rfl, hO11, _, hL11⟩
  have HO11 := Lib.hid hO11
  have HC1 := Lib.hid hL11.chain
  have HC2 := Lib.hid (hL11.keep HD9.out.cu)
  have HPP : Hid (s11.pages = pages) := Lib.hid ((hL11.pages HD9.out.sp).trans HD9.out.pages)
  obtain ⟨k1, hk1⟩ : ∃ n, n = HL.el ks 0 := ⟨_, rfl⟩
  rw [← hk1]
  have HK1 := Lib.hid hk1
  have HG1 : Hid (∀ W, Below w11.heap.size w11 W → Calls Tryz.prog 8 #[.pointer (some ⟨pb, 0, none⟩), .int .i64 k1, .int .i64 v.size] W fun e w' => e = .returned (.tuple #[.string v, .int .i64 0]) ∧ Below W.heap.size W w') := Lib.hid (fun W hW => by
    rw [HK1.out]
    exact ow_get (HO11.out.later hW) (by omega) HC1.out HV.out.1 HV.out.2)
  have HG2 : Hid (∀ W, Below w11.heap.size w11 W → Calls Tryz.prog 8 #[.pointer (some ⟨pb, 0, none⟩), .int .i64 j1, .int .i64 u.size] W fun e w' => e = .returned (.tuple #[.string u, .int .i64 0]) ∧ Below W.heap.size W w') := Lib.hid (fun W hW => by
    rw [HJ1.out]
    exact ow_get (HO11.out.later hW) (by omega) HC2.out HU.out.1 HU.out.2)
  clear hO11 hL11 hk1 HPT3 HD9 HO10 HC1 HC2
  go_wp2_with fail
  refine (HG1.out _ (Below.refl _ _)).mono ?_
  rintro e w12 ⟨rfl, hb12⟩
  have HB12 := Lib.hid hb12
  clear hb12 HG1
  go_wp2_with fail
  refine (HG2.out _ HB12.out).mono ?_
  rintro e w13 ⟨rfl, hb13⟩
  have HB13 : Hid (Below w11.heap.size w11 w13) := Lib.hid (HB12.out.trans (hb13.mono HB12.out.size))
  clear hb13 HG2 HB12
  go_wp2_with fail
  refine (HA.out _).mono ?_
  rintro e w14 ⟨rfl, hb14⟩
  have HO14 := Lib.hid ((HO11.out.later HB13.out).later hb14)
  have hpgs := pg_pages HO14.out.pg
  rw [HPP.out] at hpgs
  have HPGS := Lib.hid hpgs
  have hpe : ((pages : Int) == (pages : Int)) = true := by simp
  clear hb14 hpgs HO11 HB13
  go_wp2_with fail
  refine HPGS.out.mono ?_
  rintro e w15 ⟨rfl, rfl⟩
  have HB15 := Lib.hid HO14.out.below
  clear HPGS HO14
  go_wp2
  go_ret
  exact ⟨rfl, HB15.out⟩

theorem overBack_walk (v u : ByteArray) (w : World) (hv : v.size ≤ maxLen) (hu : u.size ≤ maxLen) :
    Calls Tryz.prog 4 #[.string v, .string u] w fun e w' => e = .returned (.bool true) ∧ Below w.heap.size w w' := by
  by_cases hno : 2100 < v.size ∨ 2000 < u.size ∨ u.size = 0
  · exact oback_no v u w hno (by unfold maxLen at hv; omega) (by unfold maxLen at hu; omega)
  · by_cases hb : v.size = 0 ∨ 2000 < v.size
    · exact oback_bad v u w hb (by omega) (by omega) (by omega)
    · exact oback_yes v u w (by omega) (by omega) (by omega) (by omega)
end Go.Proofs.YtlocadmiomglaaaGreatDoor
