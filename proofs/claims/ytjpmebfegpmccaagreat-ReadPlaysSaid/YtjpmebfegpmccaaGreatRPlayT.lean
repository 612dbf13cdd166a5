/- ReadPlays, of a zero queue. -/
import Derived.Test.YtjpmebfegpmccaaGreatRPlayH
namespace Go.Proofs.YtjpmebfegpmccaaGreat
open Go.RowKit

theorem rpi_start_true {w w1 : World} (hQ : QueueI w.heap.size w.heap.size (.slice none 0 0) [] 0 w1) (hb1 : Below w.heap.size w w1) : RPI w (w1.heap.size + 1) w1.heap.size (w1.heap.size + 1 + 1) 0 (((w1.alloc (.cells #[.slice none 0 0] 29)).alloc (.cells #[.slice none 0 0, .int .i64 0] 33)).alloc (.cells (List.replicate 22 (Value.slice none 0 0)).toArray 47)) := by
  have hs := hb1.size
  have B1 : Below w1.heap.size w1 (w1.alloc (.cells #[.slice none 0 0] 29)) := (Below.refl _ w1).alloc (Nat.le_refl _) _
  have hs1 : (w1.alloc (.cells #[.slice none 0 0] 29)).heap.size = w1.heap.size + 1 := by simp
  have hr : RQI w1.heap.size w.heap.size (.slice none 0 0) [] (w1.alloc (.cells #[.slice none 0 0] 29)) := by
    have hb : (w1.alloc (.cells #[.slice none 0 0] 29)).heap[w1.heap.size]? = some (.cells #[.slice none 0 0] 29 (0, 0)) := heap_alloc_new w1 _
    exact ⟨by rw [cell_of_row _ _ _ _ _ _ hb]; rfl, frozen_of_row _ _ _ _ _ hb, World.ownsRow_nil _ _ _ _, (fun h => by cases h), by omega, fun _ => rfl⟩
  generalize w1.alloc (.cells #[.slice none 0 0] 29) = w2 at *
  have B3 : Below w2.heap.size w2 (w2.alloc (.cells #[.slice none 0 0, .int .i64 0] 33)) := (Below.refl _ w2).alloc (Nat.le_refl _) _
  have hs3 : (w2.alloc (.cells #[.slice none 0 0, .int .i64 0] 33)).heap.size = w2.heap.size + 1 := by simp
  have hq3 : QueueI w2.heap.size w.heap.size (.slice none 0 0) [] 0 (w2.alloc (.cells #[.slice none 0 0, .int .i64 0] 33)) := by
    have hb : (w2.alloc (.cells #[.slice none 0 0, .int .i64 0] 33)).heap[w2.heap.size]? = some (.cells #[.slice none 0 0, .int .i64 0] 33 (0, 0)) := heap_alloc_new w2 _
    exact ⟨⟨by rw [cell_of_row _ _ _ _ _ _ hb]; rfl, frozen_of_row _ _ _ _ _ hb, World.ownsRow_nil _ _ _ _, (fun h => by cases h), by simp, by omega⟩, by rw [cell_of_row _ _ _ _ _ _ hb]; rfl, frozen_of_row _ _ _ _ _ hb, hQ.2.2.2⟩
  generalize w2.alloc (.cells #[.slice none 0 0, .int .i64 0] 33) = w3 at *
  have hk := bookN_new w3 47
  have B2 : Below w3.heap.size w3 (w3.alloc (.cells (List.replicate 22 (Value.slice none 0 0)).toArray 47)) := (Below.refl _ w3).alloc (Nat.le_refl _) _
  rw [hs3, hs1] at hk
  rw [hs1] at hq3
  refine ⟨.slice none 0 0, .slice none 0 0, [], 0, [], _, 0, ⟨hq3.below B2, (hr.below B3).below B2, hk.less (by omega), ?_, ?_, ?_, by omega, by omega, by omega, ((hb1.trans (B1.mono hs)).trans (B3.mono (by omega))).trans (B2.mono (by omega))⟩, Nat.le_refl _, QS2.nil, List.Perm.refl _, Int.le_refl _, by omega, by simp⟩
  · rintro j (e | e) (e2 | e2)
    · omega
    · cases e2
    · cases e
    · cases e
  · rintro j (e | e) e2
    · omega
    · cases e
  · rintro j (e | e) e2
    · omega
    · cases e

set_option maxHeartbeats 8000000 in
set_option maxRecDepth 100000 in
theorem plays_true (p : Option Addr) (n c : Nat) (os : List RdOp) (w : World) (h : RdG opc w w.heap.size p n os) (hok : ∀ i, i < n → opok w (opAt os i)) (hn : n ≤ 120) : Calls Tryz.prog 3 #[.bool true, .slice p n c] w fun e w' => e = .returned (.bool true) ∧ Below w.heap.size w w' := by
  have HA := Lib.hid (fun w => alive_true w)
  have H := Lib.hid h
  have HOK := Lib.hid hok
  clear h hok
  go_enter Tryz.func3, Tryz.ntmps3
  go_wp2_with fail
  refine (queue_new _).mono ?_
  rintro e w1 ⟨rfl, hQ, hb1⟩
  go_wp2
  have HST := Lib.hid (rpi_start_true hQ hb1)
  clear hQ hb1
  go_loopw [8] (fun iv wr => ∃ i : Nat, i ≤ n ∧ iv = .int .i64 i ∧ Hid (RPI w (w1.heap.size + 1) (w1.heap.size) (w1.heap.size + 1 + 1) i wr)) (fun iv _ => n - (intOf iv).toNat)
  case atStart => exact ⟨0, Nat.zero_le _, rfl, HST⟩
  case round =>
    clear HST
    obtain ⟨i, hi, rfl, hI⟩ := hrel
    obtain ⟨wo, hwo⟩ : ∃ wo, wo = wr := ⟨_, rfl⟩
    subst hwo
    by_cases hlt : i < n
    · obtain ⟨b, o, hpe, hbl, x0, x1, x2, x3⟩ := opc_cells (H.out.below (RPI.of w hI.out)) i hlt
      have hop := HOK.out i hlt
      subst hpe
      generalize opAt os i = x at *
      obtain ⟨xk, xa, xb, xp, xn, xc, xz⟩ := x
      simp only at x0 x1 x2 x3
      have HZ := Lib.hid hop.1
      have HP0 := Lib.hid hop.2.1
      have HOKZ := Lib.hid hop.2.2
      simp only at HZ HP0 HOKZ
      clear hop
      have hsz := (RPI.of w hI.out).size
      by_cases hx40 : 40 < xn
      · have HB0 := Lib.hid (RPI.of w hI.out)
        clear hI HZ HP0
        go_wp2
        go_ret
        exact ⟨rfl, HB0.out.alloc hsz _⟩
      · by_cases hk1 : xk = 1
        · subst hk1
          go_wp2_with fail
          generalize hW0 : wo.alloc (.cells #[.int .i64 1, .int .i64 xa, .int .i64 xb, .slice xp xn xc] 50) = W0 at *
          have HS0 : Hid (RPS w W0 (w1.heap.size + 1) (w1.heap.size) (w1.heap.size + 1 + 1) (fun j => j = wo.heap.size) i W0) := Lib.hid (by rw [← hW0]; exact RPS.start hI.out _)
          have HSZ0 : Hid (W0.heap.size = wo.heap.size + 1) := Lib.hid (by rw [← hW0]; simp)
          have HY : Hid (W0.cell? ⟨wo.heap.size, 3, none⟩ = some (.slice xp xn xc)) := Lib.hid (by subst hW0; go_simp)
          have HBW : Hid (Below w.heap.size w W0) := Lib.hid (by rw [← hW0]; exact (RPI.of w hI.out).alloc hsz _)
          clear hI
          rename_i K hK
          have T22 : Hid (∀ (u4 u11 u12 u13 u28 u29 u30 u31 u32 u33 u34 u35 u36 u37 u38 u39 u40 u41 u42 u43 u44 u45 u46 u47 u48 u49 u50 u51 u52 u53 u54 u55 u56 u57 u58 u59 u60 u61 u62 u63 u64 u65 u66 u67 u68 u69 u70 u71 u72 u73 u74 u75 u76 u77 u78 u79 u80 u81 u82 u83 u84 u85 u86 u87 u88 u89 u90 u91 u92 u93 u94 u95 u96 u97 u98 u99 u100 u101 u102 u103 u104 u105 u106 u107 u108 u109 u110 u111 u112 u113 u114 u115 u116 u117 u118 u119 u120 u121 u122 u123 u124 u125 u126 u127 u128 u129 u130 u131 u132 u133 u134 u135 u136 u137 u138 u139 u140 u141 u142 u143 u144 u145 : Value) (g cap : Nat) (W : World), Below W0.heap.size W0 W → W.ownsRow (wo.heap.size + 1) 52 3 (.slice (some ⟨g, 0, none⟩) (xn + 1) cap) (xn + 1) (rowOf rcells xz ++ rowOf rcells [(-77, 0, 0)]) → K ⟨#[.bool true, .slice (some ⟨b, o, none⟩) n c, undef, undef, u4, .pointer (some ⟨w1.heap.size + 1, 0, none⟩), .pointer (some ⟨w1.heap.size, 0, none⟩), .pointer (some ⟨w1.heap.size + 1 + 1, 0, none⟩), .int .i64 i, .pointer (some ⟨wo.heap.size, 0, none⟩), .slice (some ⟨g, 0, none⟩) xn cap, u11, u12, u13, .slice (some ⟨b, o, none⟩) n c, .int .i64 n, .bool (decide (120 < (n : Int))), undef, .pointer (some ⟨w.heap.size, 0, none⟩), .agg #[.slice none 0 0], .pointer (some ⟨w1.heap.size, 0, none⟩), .bool true, .agg #[.slice none 0 0, .int .i64 0], .pointer (some ⟨w1.heap.size + 1, 0, none⟩), .pointer (some ⟨w1.heap.size + 1, 0, none⟩), .bool false, .agg #[.slice none 0 0, .slice none 0 0, .slice none 0 0, .slice none 0 0, .slice none 0 0, .slice none 0 0, .slice none 0 0, .slice none 0 0, .slice none 0 0, .slice none 0 0, .slice none 0 0, .slice none 0 0, .slice none 0 0, .slice none 0 0, .slice none 0 0, .slice none 0 0, .slice none 0 0, .slice none 0 0, .slice none 0 0, .slice none 0 0, .slice none 0 0, .slice none 0 0], .pointer (some ⟨w1.heap.size + 1 + 1, 0, none⟩), u28, u29, u30, u31, u32, u33, u34, u35, u36, u37, u38, u39, u40, u41, u42, u43, u44, u45, u46, u47, u48, u49, u50, u51, u52, u53, u54, u55, u56, u57, u58, u59, u60, u61, u62, u63, u64, u65, u66, u67, u68, u69, u70, u71, u72, u73, u74, u75, u76, u77, u78, u79, u80, u81, u82, u83, u84, u85, u86, u87, u88, u89, u90, u91, u92, u93, u94, u95, u96, u97, u98, u99, u100, u101, u102, u103, u104, u105, u106, u107, u108, u109, u110, u111, u112, u113, u114, u115, u116, u117, u118, u119, u120, u121, u122, u123, u124, u125, u126, u127, u128, u129, u130, u131, u132, u133, u134, u135, u136, u137, u138, u139, u140, u141, u142, u143, u144, u145, undef, undef, undef, undef, undef], []⟩ W) := by
            refine Lib.hid ?_
            intro u4 u11 u12 u13 u28 u29 u30 u31 u32 u33 u34 u35 u36 u37 u38 u39 u40 u41 u42 u43 u44 u45 u46 u47 u48 u49 u50 u51 u52 u53 u54 u55 u56 u57 u58 u59 u60 u61 u62 u63 u64 u65 u66 u67 u68 u69 u70 u71 u72 u73 u74 u75 u76 u77 u78 u79 u80 u81 u82 u83 u84 u85 u86 u87 u88 u89 u90 u91 u92 u93 u94 u95 u96 u97 u98 u99 u100 u101 u102 u103 u104 u105 u106 u107 u108 u109 u110 u111 u112 u113 u114 u115 u116 u117 u118 u119 u120 u121 u122 u123 u124 u125 u126 u127 u128 u129 u130 u131 u132 u133 u134 u135 u136 u137 u138 u139 u140 u141 u142 u143 u144 u145 g cap W hBW hrow
            refine hK _ _ ?_
            clear hK
            have hxl := HZ.out.1
            have hgl := hrow.lt g rfl
            have hrow2 : RdG rcells W W.heap.size (some ⟨g, 0, none⟩) (xn + 1) (xz ++ [(-77, 0, 0)]) := RdG.of_own (f := rcells) (by rw [rowOf_append]; exact hrow) (by simp [hxl])
            have hcaps := owns_capsG hrow
            have hrd : RdG rcells W W.heap.size (some ⟨g, 0, none⟩) xn xz := by
              have e := hrow2.takes rcells_length (k := xn) (by omega)
              rwa [List.take_left' hxl] at e
            have HS : Hid (RPS w W (w1.heap.size + 1) (w1.heap.size) (w1.heap.size + 1 + 1) (fun j => j = wo.heap.size ∨ j = g) i W) := Lib.hid (HS0.out.again hBW (fun j hj => by
              rcases hj with e | e
              · exact .inl e
              · right
                rw [e, HSZ0.out]
                exact hgl))
            have HADD := Lib.hid (rp_add (c := cap) HS.out hrd (fun b o e => by
              injection e with e
              injection e with e _ _
              exact .inr e.symm) (by omega) (by omega))
            have HYW : Hid (W.cell? ⟨wo.heap.size, 3, none⟩ = some (.slice xp xn xc)) := Lib.hid ((hBW.cell (p := ⟨wo.heap.size, 3, none⟩) (by show wo.heap.size < _; rw [HSZ0.out]; omega)).trans HY.out)
            have HGC : Hid (∀ k, k ≤ xn → W.cell? ⟨g, k * 3, none⟩ = some (.int .i64 (HL.el (xz ++ [(-77, 0, 0)]) k).1) ∧ W.cell? ⟨g, k * 3 + 1, none⟩ = some (.int .i64 (HL.el (xz ++ [(-77, 0, 0)]) k).2.1) ∧ W.cell? ⟨g, k * 3 + 2, none⟩ = some (.int .i64 (HL.el (xz ++ [(-77, 0, 0)]) k).2.2)) := Lib.hid (fun k hk => by
              obtain ⟨b', o', e, _, h0, h1, h2⟩ := hrow2.read k (by omega)
              injection e with e
              injection e with e1 e2 _
              subst e1 e2
              rw [Nat.zero_add] at h0 h1 h2
              exact ⟨h0, h1, h2⟩)
            have HGL : Hid (wo.heap.size < W.heap.size ∧ g < W.heap.size) := Lib.hid ⟨by have := hBW.size; rw [HSZ0.out] at this; omega, hgl.2⟩
            have hcap1 : xn + 1 ≤ cap := hcaps.1
            have hcap2 : cap ≤ 9223372036854775807 := hcaps.2
            have HXL := Lib.hid hxl
            clear hBW hrow hrow2 hrd HS hcaps hgl hxl
            go_wp2_with fail
            refine HADD.out.mono ?_
            rintro e w4 ⟨rfl, hM⟩
            have HM4 := Lib.hid hM
            clear hM HADD
            go_wp2
            go_loopw [11] (fun kv wr => ∃ k : Nat, k ≤ xn ∧ kv = .int .i64 k ∧ Hid (RPM w W (w1.heap.size + 1) (w1.heap.size) (w1.heap.size + 1 + 1) (fun j => j = wo.heap.size ∨ j = g) i xz xn k wr)) (fun kv _ => xn - (intOf kv).toNat)
            case atStart => exact ⟨0, Nat.zero_le _, rfl, HM4⟩
            case round =>
              clear HM4
              obtain ⟨k, hk, rfl, hM⟩ := hrel
              have y3 : wr.cell? ⟨wo.heap.size, 3, none⟩ = some (.slice xp xn xc) := (hM.out.fr.cell (p := ⟨wo.heap.size, 3, none⟩) HGL.out.1 (fun h => h (.inl rfl))).trans HYW.out
              by_cases hkl : k < xn
              · have hkI : (k : Int) < (xn : Int) := by omega
                obtain ⟨zb, zo, hxp, hzb, z0, z1, z2⟩ := (HZ.out.below hM.out.bel).read k hkl
                have GK : ∀ j, (Fr.cell (p := ⟨g, j, none⟩) hM.out.fr HGL.out.2 (fun h => h (.inr rfl))) = (Fr.cell (p := ⟨g, j, none⟩) hM.out.fr HGL.out.2 (fun h => h (.inr rfl))) := fun _ => rfl
                clear GK
                obtain ⟨g0, g1, g2⟩ := HGC.out k hk
                rw [el_left (by rw [HXL.out]; exact hkl)] at g0 g1 g2
                have HMN : Hid (∀ W', Below wr.heap.size wr W' → Calls Tryz.prog 7 #[.pointer (some ⟨w1.heap.size, 0, none⟩), rv (HL.el xz k)] W' fun e w' => e = .returned (.tuple #[]) ∧ RPM w W (w1.heap.size + 1) (w1.heap.size) (w1.heap.size + 1 + 1) (fun j => j = wo.heap.size ∨ j = g) i xz xn (k + 1) w') := Lib.hid (fun W' hW => rp_radd (hM.out.below hW) (by omega) (by omega) hkl)
                have hzl := cell_lt z0
                have hyl := cell_lt y3
                subst hxp
                generalize hel : HL.el xz k = el at z0 z1 z2 g0 g1 g2 HMN
                have HEL := Lib.hid hel
                clear hel
                obtain ⟨e1, e2, e3⟩ := el
                simp only at z0 z1 z2 g0 g1 g2
                have qy : ∀ q : Later wr, q.1.cell? ⟨wo.heap.size, 3, none⟩ = some (.slice (some ⟨zb, zo, none⟩) xn xc) := fun q => (q.2.cell (p := ⟨wo.heap.size, 3, none⟩) hyl).trans y3
                have q0 : ∀ q : Later wr, q.1.cell? ⟨zb, zo + k * 3, none⟩ = some (.int .i64 e1) := fun q => (q.2.cell (p := ⟨zb, zo + k * 3, none⟩) hzl).trans z0
                have q1 : ∀ q : Later wr, q.1.cell? ⟨zb, zo + k * 3 + 1, none⟩ = some (.int .i64 e2) := fun q => (q.2.cell (p := ⟨zb, zo + k * 3 + 1, none⟩) hzl).trans z1
                have q2 : ∀ q : Later wr, q.1.cell? ⟨zb, zo + k * 3 + 2, none⟩ = some (.int .i64 e3) := fun q => (q.2.cell (p := ⟨zb, zo + k * 3 + 2, none⟩) hzl).trans z2
                have HZL : Hid (zb < w.heap.size) := Lib.hid hzb
                clear hM z0 z1 z2 hzb hzl hyl
                go_wp2_with fail
                refine Loud.wp_region_loud (n := 20) (fun W' => ∃ q : Later wr, W' = q.1) (by kernel_rfl) rfl rfl (by kernel_rfl) (by kernel_rfl) (by kernel_rfl) (by kernel_rfl) ⟨⟨wr.drew, ((Fr.refl (fun _ => False) wr).drew).below (Nat.le_refl _) (fun _ h => h.elim)⟩, rfl⟩ ?_
                simp only [List.take_succ_cons, List.take_zero]
                repeat (go_big_quiet_step (fail))
                refine wpQuiet_nil ?_
                intro W' hW' K2 hK2
                obtain ⟨⟨wq, hq⟩, hW2⟩ := hW'
                subst hW2
                refine Loud.wp_call rfl (enters_of Tryz.func7 (by kernel_rfl) rfl) #[.pointer (some ⟨w1.heap.size, 0, none⟩), rv (e1, e2, e3)] (by rfl) ?_
                refine (HMN.out _ hq).mono ?_
                rintro e w5 ⟨rfl, hM5⟩
                refine ⟨_, rfl, hK2 _ _ ?_⟩
                simp only [List.drop_succ_cons, List.drop_nil, Act.put, List.setIfInBounds_toArray, List.set_cons_succ, List.set_cons_zero]
                refine wpQuiet_nil ?_
                have HM5 := Lib.hid hM5
                have v3 : w5.cell? ⟨wo.heap.size, 3, none⟩ = some (.slice (some ⟨zb, zo, none⟩) xn xc) := (hM5.fr.cell (p := ⟨wo.heap.size, 3, none⟩) HGL.out.1 (fun h => h (.inl rfl))).trans HYW.out
                have hv3 := cell_lt v3
                have v4 : ∀ c u, W.cell? ⟨g, c, none⟩ = some u → w5.cell? ⟨g, c, none⟩ = some u := fun c u h => (hM5.fr.cell (p := ⟨g, c, none⟩) HGL.out.2 (fun h => h (.inr rfl))).trans h
                have hg5 := cell_lt (v4 _ _ g0)
                obtain ⟨zb2, zo2, hxp2, hzb2, z0, z1, z2⟩ := (HZ.out.below hM5.bel).read k hkl
                injection hxp2 with hxp2
                injection hxp2 with hx1 hx2 _
                subst hx1 hx2
                rw [HEL.out] at z0 z1 z2
                have hz5 := cell_lt z0
                have r3 : ∀ q : Later w5, q.1.cell? ⟨wo.heap.size, 3, none⟩ = some (.slice (some ⟨zb, zo, none⟩) xn xc) := fun q => (q.2.cell (p := ⟨wo.heap.size, 3, none⟩) hv3).trans v3
                have r0 : ∀ q : Later w5, q.1.cell? ⟨zb, zo + k * 3, none⟩ = some (.int .i64 e1) := fun q => (q.2.cell (p := ⟨zb, zo + k * 3, none⟩) hz5).trans z0
                have r1 : ∀ q : Later w5, q.1.cell? ⟨zb, zo + k * 3 + 1, none⟩ = some (.int .i64 e2) := fun q => (q.2.cell (p := ⟨zb, zo + k * 3 + 1, none⟩) hz5).trans z1
                have r2 : ∀ q : Later w5, q.1.cell? ⟨zb, zo + k * 3 + 2, none⟩ = some (.int .i64 e3) := fun q => (q.2.cell (p := ⟨zb, zo + k * 3 + 2, none⟩) hz5).trans z2
                have s0 : ∀ q : Later w5, q.1.cell? ⟨g, k * 3, none⟩ = some (.int .i64 e1) := fun q => (q.2.cell (p := ⟨g, k * 3, none⟩) hg5).trans (v4 _ _ g0)
                have s1 : ∀ q : Later w5, q.1.cell? ⟨g, k * 3 + 1, none⟩ = some (.int .i64 e2) := fun q => (q.2.cell (p := ⟨g, k * 3 + 1, none⟩) hg5).trans (v4 _ _ g1)
                have s2 : ∀ q : Later w5, q.1.cell? ⟨g, k * 3 + 2, none⟩ = some (.int .i64 e3) := fun q => (q.2.cell (p := ⟨g, k * 3 + 2, none⟩) hg5).trans (v4 _ _ g2)
                have FIN : Hid (∀ W', Below w5.heap.size w5 W' → RPM w W (w1.heap.size + 1) (w1.heap.size) (w1.heap.size + 1 + 1) (fun j => j = wo.heap.size ∨ j = g) i xz xn (k + 1) W') := Lib.hid (fun W' hW => HM5.out.below hW)
                clear hM5 v3 v4 hv3 hg5 hz5 z0 z1 z2 hzb2 g0 g1 g2 qy q0 q1 q2 HMN hq y3 HM5 HEL
                go_wp2_with fail
                refine wp_region_later (by kernel_rfl) (by kernel_rfl) ?_
                repeat (go_big_quiet_step (fail))
                refine wpQuiet_nil ?_
                intro _ hw'
                obtain ⟨⟨wq, hq⟩, hw''⟩ := hw'
                subst hw''
                have HN := Lib.hid (FIN.out _ hq)
                clear hq r0 r1 r2 r3 s0 s1 s2 FIN
                go_wp2
                go_roundw
                case rel => exact ⟨k + 1, by omega, by go_num, HN⟩
                case measure => simp [intOf]; omega
              · obtain rfl : k = xn := by omega
                have gm := (HGC.out k (Nat.le_refl _)).1
                rw [el_last HXL.out] at gm
                have g9 : wr.cell? ⟨g, k * 3, none⟩ = some (.int .i64 (-77)) := (hM.out.fr.cell (p := ⟨g, k * 3, none⟩) HGL.out.2 (fun h => h (.inr rfl))).trans gm
                have HPE := Lib.hid (hM.out.done HOKZ.out HXL.out (by omega))
                clear hM gm HGC
                go_wp2_with fail
                obtain ⟨n2, c2, p2, hln⟩ := rp_len HPE.out
                have cr : ∀ q : Later wr, q.1.cell? ⟨w1.heap.size, 0, none⟩ = some (.slice p2 n2 c2) := fun q => (hln q.1 q.2).1
                have HLN : Hid (∀ q : Later wr, _) := Lib.hid (fun q => (hln q.1 q.2).2)
                have hne := ne_same (n2 : Int)
                have HPQ : Hid (∀ W, Below wr.heap.size wr W → RPI w (w1.heap.size + 1) (w1.heap.size) (w1.heap.size + 1 + 1) (i + 1) W) := Lib.hid (fun W hW => HPE.out.below hW)
                clear hln HPE g9 y3
                go_wp2_with fail
                refine wp_region_later (by kernel_rfl) (by kernel_rfl) ?_
                repeat (go_big_quiet_step (first | (go_at_call 14; exact Calls.later_same (HLN.out _))))
                refine wpQuiet_nil ?_
                intro _ hw'
                obtain ⟨⟨wq, hq⟩, hw''⟩ := hw'
                subst hw''
                have HN := Lib.hid (HPQ.out _ hq)
                clear hq cr HLN HPQ hne
                go_wp2
                go_roundw
                case rel => exact ⟨i + 1, by omega, by go_num, HN⟩
                case measure => simp [intOf]; omega
          clear hK
          have y3 := HY.out
          have hl3 : wo.heap.size < W0.heap.size := by rw [HSZ0.out]; omega
          have hrdx : RdG rcells W0 W0.heap.size xp xn xz := (HZ.out.below HBW.out).more HBW.out.size
          have HRX := Lib.hid hrdx
          have HCY : Hid (∀ V, Below W0.heap.size W0 V → V.cell? ⟨wo.heap.size, 3, none⟩ = some (.slice xp xn xc)) := Lib.hid (fun V hV => (hV.cell (p := ⟨wo.heap.size, 3, none⟩) hl3).trans HY.out)
          have hd0 : Below W0.heap.size W0 W0.drew := ((Fr.refl (fun _ => False) W0).drew).below (Nat.le_refl _) (fun _ h => h.elim)
          have HBd := Lib.hid hd0
          clear hrdx hd0 HS0 HBW x0 x1 x2 x3 hsz
          have y3q : ∀ q : Later W0, q.1.cell? ⟨wo.heap.size, 3, none⟩ = some (.slice xp xn xc) := fun q => HCY.out q.1 q.2
          refine Mix.region_mix (n := 10) (m := 5) (fun V => ∃ q : Later W0, V = q.1) [0, 1, 3, 6, 7, 8] (by kernel_rfl) rfl rfl (by kernel_rfl) (by kernel_rfl) ⟨⟨W0.drew, HBd.out⟩, rfl⟩ ?_
          repeat (refine Mix.picks_step rfl ?_; go_big_quiet_step (fail))
          refine Mix.picks_nil ?_
          intro inv
          refine sink_two (i := 2) (j := 4) (by kernel_rfl) rfl rfl (by omega) (by omega) inv (fun K hK => ?_) (fun K hK => ?_)
          · have HKK := Lib.hid hK
            clear hK
            refine RowT.step rd_T rfl _ _ rfl W0.heap.size (.slice none 0 0) 0 [] rfl (World.ownsRow_nil _ _ _ _) (m := xn) (zs := xz) rfl (HRX.out.below HBd.out) HP0.out (by omega) (by simp) ?_
            intro v3 w3 hown3 hgr3 _
            have H3 := Lib.hid (rg_one (B := W0.heap.size) (w := W0) HBd.out hown3 hgr3)
            clear hown3 hgr3
            refine HKK.out _ _ ⟨⟨_, H3.out.2⟩, rfl⟩ ?_
            clear HKK inv
            intro hS inv
            (try simp only [Act.put]); (try simp only [List.setIfInBounds_toArray]); (try simp only [List.set_cons_succ]); (try simp only [List.set_cons_zero])
            refine sink_one (i := 4) (by kernel_rfl) rfl (by omega) inv (fun K hK => ?_)
            have HKK := Lib.hid hK
            clear hK
            go_simp
            refine HKK.out _ _ ⟨⟨_, (H3.out.2.alloc H3.out.2.size _)⟩, rfl⟩ ?_
            clear HKK inv
            intro hS inv
            (try simp only [Act.put]); (try simp only [List.setIfInBounds_toArray]); (try simp only [List.set_cons_succ]); (try simp only [List.set_cons_zero])
            refine sink_one (i := 5) (by kernel_rfl) rfl (by omega) inv (fun K hK => ?_)
            have HKK := Lib.hid hK
            clear hK
            refine RowT.step rd_T rfl _ _ rfl W0.heap.size v3 xn (rowOf rcells xz) rfl (H3.out.1.alloc _) (m := 1) (zs := [(-77, 0, 0)]) rfl (rd_new3 w3 (-77) 0 0 _) (fun h => by cases h) (by omega) (by have := H3.out.2.size; first | omega | (simp; omega)) ?_
            intro v4 w4 hown4 hgr4 _
            obtain ⟨g4, c4, hv4, _, _, _⟩ := owns_len hown4 (by omega)
            subst hv4
            have H4 := Lib.hid (rg_two H3.out.1 H3.out.2 hown4 (.inr ⟨_, hgr4⟩))
            obtain ⟨hc41, hc42⟩ := owns_capsG hown4
            have hc43 : xn ≤ c4 := (by omega)
            clear hown4 hgr4
            refine HKK.out _ _ ⟨⟨_, H4.out.2⟩, rfl⟩ ?_
            clear HKK inv
            intro hS inv
            (try simp only [Act.put]); (try simp only [List.setIfInBounds_toArray]); (try simp only [List.set_cons_succ]); (try simp only [List.set_cons_zero])
            refine sink_one (i := 9) (by kernel_rfl) rfl (by omega) inv (fun K hK => ?_)
            have HKK := Lib.hid hK
            clear hK
            go_simp
            refine HKK.out _ _ ⟨⟨_, H4.out.2⟩, rfl⟩ ?_
            clear HKK inv
            intro hS inv
            (try simp only [Act.put]); (try simp only [List.setIfInBounds_toArray]); (try simp only [List.set_cons_succ]); (try simp only [List.set_cons_zero])
            refine sink_last (by kernel_rfl) rfl (by kernel_rfl) (fun K hK => ?_)
            have HKK := Lib.hid hK
            clear hK
            go_simp
            refine HKK.out _ _ ⟨rfl, ?_⟩
            exact T22.out _ _ _ _ _ _ _ _ _ _ _ _ _ _ _ _ _ _ _ _ _ _ _ _ _ _ _ _ _ _ _ _ _ _ _ _ _ _ _ _ _ _ _ _ _ _ _ _ _ _ _ _ _ _ _ _ _ _ _ _ _ _ _ _ _ _ _ _ _ _ _ _ _ _ _ _ _ _ _ _ _ _ _ _ _ _ _ _ _ _ _ _ _ _ _ _ _ _ _ _ _ _ _ _ _ _ _ _ _ _ _ _ _ _ _ _ _ _ _ _ _ _ g4 c4 w4 H4.out.2 (HSZ0.out ▸ H4.out.1)
          · have HKK := Lib.hid hK
            clear hK
            go_simp
            refine HKK.out _ _ ⟨⟨_, (HBd.out.alloc (Nat.le_refl _) _)⟩, rfl⟩ ?_
            clear HKK inv
            intro hS inv
            (try simp only [Act.put]); (try simp only [List.setIfInBounds_toArray]); (try simp only [List.set_cons_succ]); (try simp only [List.set_cons_zero])
            refine sink_one (i := 2) (by kernel_rfl) rfl (by omega) inv (fun K hK => ?_)
            have HKK := Lib.hid hK
            clear hK
            refine RowT.step rd_T rfl _ _ rfl W0.heap.size (.slice none 0 0) 0 [] rfl (World.ownsRow_nil _ _ _ _) (m := xn) (zs := xz) rfl (HRX.out.below (HBd.out.alloc (Nat.le_refl _) _)) HP0.out (by omega) (by simp) ?_
            intro v3 w3 hown3 hgr3 _
            have H3 := Lib.hid (rg_one (B := W0.heap.size) (w := W0) (HBd.out.alloc (Nat.le_refl _) _) hown3 hgr3)
            have HX3 := Lib.hid (RdG.far (rd_new3 W0.drew (-77) 0 0 52) hgr3)
            clear hown3 hgr3
            refine HKK.out _ _ ⟨⟨_, H3.out.2⟩, rfl⟩ ?_
            clear HKK inv
            intro hS inv
            (try simp only [Act.put]); (try simp only [List.setIfInBounds_toArray]); (try simp only [List.set_cons_succ]); (try simp only [List.set_cons_zero])
            refine sink_one (i := 5) (by kernel_rfl) rfl (by omega) inv (fun K hK => ?_)
            have HKK := Lib.hid hK
            clear hK
            refine RowT.step rd_T rfl _ _ rfl W0.heap.size v3 xn (rowOf rcells xz) rfl (H3.out.1) (m := 1) (zs := [(-77, 0, 0)]) rfl (HX3.out) (fun h => by cases h) (by omega) (by have := H3.out.2.size; first | omega | (simp; omega)) ?_
            intro v4 w4 hown4 hgr4 _
            obtain ⟨g4, c4, hv4, _, _, _⟩ := owns_len hown4 (by omega)
            subst hv4
            have H4 := Lib.hid (rg_two H3.out.1 H3.out.2 hown4 (.inl hgr4))
            obtain ⟨hc41, hc42⟩ := owns_capsG hown4
            have hc43 : xn ≤ c4 := (by omega)
            clear hown4 hgr4
            refine HKK.out _ _ ⟨⟨_, H4.out.2⟩, rfl⟩ ?_
            clear HKK inv
            intro hS inv
            (try simp only [Act.put]); (try simp only [List.setIfInBounds_toArray]); (try simp only [List.set_cons_succ]); (try simp only [List.set_cons_zero])
            refine sink_one (i := 9) (by kernel_rfl) rfl (by omega) inv (fun K hK => ?_)
            have HKK := Lib.hid hK
            clear hK
            go_simp
            refine HKK.out _ _ ⟨⟨_, H4.out.2⟩, rfl⟩ ?_
            clear HKK inv
            intro hS inv
            (try simp only [Act.put]); (try simp only [List.setIfInBounds_toArray]); (try simp only [List.set_cons_succ]); (try simp only [List.set_cons_zero])
            refine sink_last (by kernel_rfl) rfl (by kernel_rfl) (fun K hK => ?_)
            have HKK := Lib.hid hK
            clear hK
            go_simp
            refine HKK.out _ _ ⟨rfl, ?_⟩
            exact T22.out _ _ _ _ _ _ _ _ _ _ _ _ _ _ _ _ _ _ _ _ _ _ _ _ _ _ _ _ _ _ _ _ _ _ _ _ _ _ _ _ _ _ _ _ _ _ _ _ _ _ _ _ _ _ _ _ _ _ _ _ _ _ _ _ _ _ _ _ _ _ _ _ _ _ _ _ _ _ _ _ _ _ _ _ _ _ _ _ _ _ _ _ _ _ _ _ _ _ _ _ _ _ _ _ _ _ _ _ _ _ _ _ _ _ _ _ _ _ _ _ _ _ g4 c4 w4 H4.out.2 (HSZ0.out ▸ H4.out.1)
        · have q1 : (xk == 1) = false := by rw [beq_eq_false_iff_ne]; exact hk1
          clear hk1
          by_cases hk2 : xk = 2
          · subst hk2
            have HS0 := Lib.hid (RPS.start hI.out (.cells #[.int .i64 2, .int .i64 xa, .int .i64 xb, .slice xp xn xc] 50))
            have HY : Hid ((wo.alloc (.cells #[.int .i64 2, .int .i64 xa, .int .i64 xb, .slice xp xn xc] 50)).cell? ⟨wo.heap.size, 1, none⟩ = some (.int .i64 xa) ∧ (wo.alloc (.cells #[.int .i64 2, .int .i64 xa, .int .i64 xb, .slice xp xn xc] 50)).cell? ⟨wo.heap.size, 2, none⟩ = some (.int .i64 xb)) := Lib.hid ⟨by go_simp, by go_simp⟩
            have HC := Lib.hid (rp_ready HS0.out xa xb)
            clear hI HZ HP0 HOKZ
            go_wp2_with fail
            refine HC.out.mono ?_
            rintro e w3 ⟨tp, tm, tc, rfl, hA⟩
            have HK := Lib.hid (rp_keep hA (by omega))
            clear hA HC HS0
            go_wp2_with fail
            refine HK.out.mono ?_
            rintro e w4 ⟨rfl, hA4⟩
            have z1 : w4.cell? ⟨wo.heap.size, 1, none⟩ = some (.int .i64 xa) := (hA4.fr.cell (p := ⟨wo.heap.size, 1, none⟩) (by simp) (fun h => h rfl)).trans HY.out.1
            have z2 : w4.cell? ⟨wo.heap.size, 2, none⟩ = some (.int .i64 xb) := (hA4.fr.cell (p := ⟨wo.heap.size, 2, none⟩) (by simp) (fun h => h rfl)).trans HY.out.2
            have HR := Lib.hid (rp_ref_ready hA4 (by omega))
            clear hA4 HK HY
            go_wp2_with fail
            refine HR.out.mono ?_
            rintro e w5 ⟨tq, td, ts, rfl, hP, hr1, hr2, hm⟩
            have HSM := Lib.hid (same_ints tp tq tm tc tm td ts ts w5 _ _ hr1 hr2 hm hm)
            have HP5 := Lib.hid hP
            clear hP hr1 hr2 hm HR z1 z2
            go_wp2_with fail
            refine HSM.out.mono ?_
            rintro e w6 ⟨b6, mm, rfl, hq6, hw6⟩
            obtain rfl : b6 = true := hq6.2 rfl
            have HP6 : Hid (RPI w (w1.heap.size + 1) (w1.heap.size) (w1.heap.size + 1 + 1) (i + 1) w6) := Lib.hid (HP5.out.below (by rw [hw6]; exact (Fr.refl (fun _ => False) _).drewN _ |>.below (Nat.le_refl _) (fun _ h => h.elim)))
            clear hq6 hw6 HSM HP5
            obtain ⟨n2, c2, p2, hln⟩ := rp_len HP6.out
            have cr : ∀ q : Later w6, q.1.cell? ⟨w1.heap.size, 0, none⟩ = some (.slice p2 n2 c2) := fun q => (hln q.1 q.2).1
            have HLN : Hid (∀ q : Later w6, _) := Lib.hid (fun q => (hln q.1 q.2).2)
            have hne := ne_same (n2 : Int)
            have HPQ : Hid (∀ W, Below w6.heap.size w6 W → RPI w (w1.heap.size + 1) (w1.heap.size) (w1.heap.size + 1 + 1) (i + 1) W) := Lib.hid (fun W hW => HP6.out.below hW)
            clear hln HP6
            go_wp2_with fail
            refine wp_region_later (by kernel_rfl) (by kernel_rfl) ?_
            repeat (go_big_quiet_step (first | (go_at_call 14; exact Calls.later_same (HLN.out _))))
            refine wpQuiet_nil ?_
            intro _ hw'
            obtain ⟨⟨wq, hq⟩, hw''⟩ := hw'
            subst hw''
            have HN := Lib.hid (HPQ.out _ hq)
            clear hq cr HLN HPQ hne
            go_wp2
            go_roundw
            case rel => exact ⟨i + 1, by omega, by go_num, HN⟩
            case measure => simp [intOf]; omega
          · have q2 : (xk == 2) = false := by rw [beq_eq_false_iff_ne]; exact hk2
            clear hk2
            have HS0 := Lib.hid (RPS.start hI.out (.cells #[.int .i64 xk, .int .i64 xa, .int .i64 xb, .slice xp xn xc] 50))
            have HY : Hid ((wo.alloc (.cells #[.int .i64 xk, .int .i64 xa, .int .i64 xb, .slice xp xn xc] 50)).cell? ⟨wo.heap.size, 1, none⟩ = some (.int .i64 xa) ∧ (wo.alloc (.cells #[.int .i64 xk, .int .i64 xa, .int .i64 xb, .slice xp xn xc] 50)).cell? ⟨wo.heap.size, 2, none⟩ = some (.int .i64 xb)) := Lib.hid ⟨by go_simp, by go_simp⟩
            have HC := Lib.hid (rp_clear HS0.out)
            clear hI HZ HP0 HOKZ
            go_wp2_with fail
            refine HC.out.mono ?_
            rintro e w3 ⟨tp, tm, tc, rfl, hA⟩
            have HK := Lib.hid (rp_keep hA (by omega))
            clear hA HC HS0
            go_wp2_with fail
            refine HK.out.mono ?_
            rintro e w4 ⟨rfl, hA4⟩
            have HR := Lib.hid (rp_ref_clear hA4 (by omega))
            clear hA4 HK HY
            go_wp2_with fail
            refine HR.out.mono ?_
            rintro e w5 ⟨tq, td, ts, rfl, hP, hr1, hr2, hm⟩
            have HSM := Lib.hid (same_ints tp tq tm tc tm td ts ts w5 _ _ hr1 hr2 hm hm)
            have HP5 := Lib.hid hP
            clear hP hr1 hr2 hm HR
            go_wp2_with fail
            refine HSM.out.mono ?_
            rintro e w6 ⟨b6, mm, rfl, hq6, hw6⟩
            obtain rfl : b6 = true := hq6.2 rfl
            have HP6 : Hid (RPI w (w1.heap.size + 1) (w1.heap.size) (w1.heap.size + 1 + 1) (i + 1) w6) := Lib.hid (HP5.out.below (by rw [hw6]; exact (Fr.refl (fun _ => False) _).drewN _ |>.below (Nat.le_refl _) (fun _ h => h.elim)))
            clear hq6 hw6 HSM HP5
            obtain ⟨n2, c2, p2, hln⟩ := rp_len HP6.out
            have cr : ∀ q : Later w6, q.1.cell? ⟨w1.heap.size, 0, none⟩ = some (.slice p2 n2 c2) := fun q => (hln q.1 q.2).1
            have HLN : Hid (∀ q : Later w6, _) := Lib.hid (fun q => (hln q.1 q.2).2)
            have hne := ne_same (n2 : Int)
            have HPQ : Hid (∀ W, Below w6.heap.size w6 W → RPI w (w1.heap.size + 1) (w1.heap.size) (w1.heap.size + 1 + 1) (i + 1) W) := Lib.hid (fun W hW => HP6.out.below hW)
            clear hln HP6
            go_wp2_with fail
            refine wp_region_later (by kernel_rfl) (by kernel_rfl) ?_
            repeat (go_big_quiet_step (first | (go_at_call 14; exact Calls.later_same (HLN.out _))))
            refine wpQuiet_nil ?_
            intro _ hw'
            obtain ⟨⟨wq, hq⟩, hw''⟩ := hw'
            subst hw''
            have HN := Lib.hid (HPQ.out _ hq)
            clear hq cr HLN HPQ hne
            go_wp2
            go_roundw
            case rel => exact ⟨i + 1, by omega, by go_num, HN⟩
            case measure => simp [intOf]; omega
    · have HPE : Hid (∃ N F, N ≤ i ∧ BookN wo (w1.heap.size + 1 + 1) w.heap.size N F ∧ w.heap.size ≤ w1.heap.size + 1 + 1) := Lib.hid (by
        obtain ⟨_, _, _, _, _, F, N, h, k, _⟩ := hI.out
        exact ⟨N, F, k, h.k, h.bb⟩)
      have HB := Lib.hid (RPI.of w hI.out)
      clear hI
      obtain ⟨N, F, hN, hbk, hbb⟩ := HPE.out
      have HBK := Lib.hid hbk
      clear hbk HPE
      go_wp2_with fail
      refine (HA.out _).mono ?_
      rintro e w3 ⟨rfl, hb3⟩
      have HB3 : Hid (Below w.heap.size w w3) := Lib.hid (HB.out.trans (hb3.mono HB.out.size))
      have HC := Lib.hid (bookN_apart (HBK.out.below hb3) (by omega) hbb)
      clear hb3
      go_wp2_with fail
      refine HC.out.mono ?_
      rintro e w4 ⟨rfl, hb4⟩
      have HB4 : Hid (Below w.heap.size w w4) := Lib.hid (HB3.out.trans hb4)
      clear hb4
      go_wp2
      go_ret
      exact ⟨rfl, HB4.out⟩
end Go.Proofs.YtjpmebfegpmccaaGreat
