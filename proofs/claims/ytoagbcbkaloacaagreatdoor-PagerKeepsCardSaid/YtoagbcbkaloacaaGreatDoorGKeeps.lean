/- arboretumlaw7.PagerKeeps: the walk. -/
import Derived.Test.YtoagbcbkaloacaaGreatDoorGKeepW
import Derived.Test.YtoagbcbkaloacaaGreatDoorGAlive
import Derived.Test.YtoagbcbkaloacaaGreatDoorLater
import Derived.Test.YtoagbcbkaloacaaGreatDoorGOpen
namespace Go.Proofs.YtoagbcbkaloacaaGreatDoor
open Go.RowKit Go.Maps Go.Conc

set_option maxRecDepth 100000 in
theorem page_eqIn (k n : Int) (b : ByteArray) (w : World) : (Op.equalIn 10000 23 (.agg #[.int .i64 k, .int .i64 n, .string b]) (.agg #[.int .i64 k, .int .i64 n, .string b])).run Tryz.prog w = .ok true w := by
  have hS : Tryz.prog.underlying 23 = some (.struct (Tryz.prog.fieldsOf 23)) := by kernel_rfl
  have hp : Tryz.prog.stoodInHeld 23 = false := by kernel_rfl
  have u3 := Tryz.underlying3
  have a3 := Tryz.isAgg3
  have z3 := Tryz.sizeOf3
  have u9 := Tryz.underlying9
  have a9 := Tryz.isAgg9
  have z9 := Tryz.sizeOf9
  rw [show (10000 : Nat) = 9998 + 1 + 1 from rfl, run_equalIn_agg w (9998 + 1) 23 _ _ hS hp]
  simp only [Program.fieldsOf, Tryz.underlying23]
  go_simp

theorem seal_old (j : Nat) (hj : j < 2 ^ 32) (w : World) : Calls Tryz.prog 22 #[.int .i64 j, .agg #[.int .i64 2, .int .i64 0, .string ⟨#[111, 108, 100]⟩]] w fun e w' => e = .returned (.tuple #[.string (oldS j), .int .i64 0]) ∧ Below w.heap.size w w' :=
  ref_seal j 0 2 oldB w hj (by omega) (by omega) (by omega) oldB_size

theorem ref_some (id : Int) (b : ByteArray) : ∃ k n s code, ∀ w : World, Calls Tryz.prog 30 #[.int .i64 id, .string b] w fun e w' => e = .returned (.tuple #[.agg #[.int .i64 k, .int .i64 n, .string s], .int .i64 code]) ∧ Below w.heap.size w w' := by
  by_cases h : b.size = 256
  · have e := fun w => ref_open_long id b w h
    unfold openV pv at e
    split at e
    · split at e
      · exact ⟨_, _, _, _, e⟩
      · exact ⟨_, _, _, _, e⟩
    · exact ⟨_, _, _, _, e⟩
  · have e := fun w => ref_open_short id b w h
    unfold pv at e
    exact ⟨_, _, _, _, e⟩

theorem new_page (w : World) (k nx : Int) (bd : ByteArray) : (w.alloc (.cells #[.int .i64 k, .int .i64 nx, .string bd] 23)).cell? ⟨w.heap.size, 0, none⟩ = some (.int .i64 k) ∧ (w.alloc (.cells #[.int .i64 k, .int .i64 nx, .string bd] 23)).cell? ⟨w.heap.size, 1, none⟩ = some (.int .i64 nx) ∧ (w.alloc (.cells #[.int .i64 k, .int .i64 nx, .string bd] 23)).cell? ⟨w.heap.size, 2, none⟩ = some (.string bd) := by
  have hrow := heap_alloc_new w (.cells #[.int .i64 k, .int .i64 nx, .string bd] 23)
  exact ⟨by rw [cell_of_row _ _ _ _ _ _ hrow]; rfl, by rw [cell_of_row _ _ _ _ _ _ hrow]; rfl, by rw [cell_of_row _ _ _ _ _ _ hrow]; rfl⟩

set_option maxHeartbeats 8000000 in
set_option maxRecDepth 100000 in
theorem keeps_core (n : Nat) (p1 p2 : Option Addr) (n1 c1 n2 c2 : Nat) (ls : List Int) (ops : List OpV) (w : World) (h1 : RdI w w.heap.size p1 n1 ls) (h2 : RdG ocells w w.heap.size p2 n2 ops) (hw : ∀ i, i < n2 → i64w (opAt ops i).n) (hna : 2 ≤ n) (hnb : n ≤ 30) (hn1 : n1 ≤ 30) (hn2 : n2 ≤ 150) (hsz : ∀ i, i < n2 → (opAt ops i).pb.size ≤ 300)
    (HLG : Hid (Calls Tryz.prog 14 #[.slice p2 n2 c2] w fun e w' => e = .returned (.bool true) ∧ w' = w)) :
    Calls Tryz.prog 5 #[.int .i64 n, .slice p1 n1 c1, .slice p2 n2 c2] w fun e w' => e = .returned (.bool true) ∧ Below w.heap.size w w' := by
  obtain ⟨i0, hi0, hz0, hz1, hz2⟩ := info_parts info_int
  have HA := Lib.hid (fun w => galive_true w)
  have H1 := Lib.hid h1
  have H2 := Lib.hid h2
  have HW := Lib.hid hw
  have HSZ := Lib.hid hsz
  have HL1 := Lib.hid h1.1
  have HNE := Lib.hid page_eqIn
  have HBS := Lib.hid (base_nil 60 n w (by omega) (by omega) (by omega))
  have HSO := Lib.hid seal_old
  clear h1 h2 hw hsz
  have g1 : ¬ ((n : Int) < 2) := by omega
  have g2 : ¬ ((30 : Int) < (n : Int)) := by omega
  have g3 : ¬ ((30 : Int) < (n1 : Int)) := by omega
  go_enter Tryz.func5, Tryz.ntmps5
  go_wp2_with fail
  refine HLG.out.mono ?_
  rintro e w1 ⟨rfl, rfl⟩
  go_wp2_with fail
  refine HBS.out.mono ?_
  rintro e w2 hR
  obtain ⟨db, rb, fb, rf, rfl, hO⟩ := old_new hR
  have HO := Lib.hid hO
  clear hO hR HBS
  go_wp2
  go_loopw [12, 13, 14] (fun iv _ _ wr => ∃ (i : Nat), 2 ≤ i ∧ i ≤ n ∧ iv = .int .i64 i ∧ Hid (OldI db fb w1.heap.size n i (i - 2) [] w1 wr)) (fun iv _ _ _ => n - (intOf iv).toNat)
  case atStart => exact ⟨2, Nat.le_refl _, hna, rfl, HO⟩
  case round =>
    clear HO
    obtain ⟨i, hi2, hin, rfl, hI⟩ := hrel
    by_cases hlt : i < n
    · have HS := Lib.hid (HSO.out i (by omega) wr)
      go_wp2_with fail
      refine HS.out.mono ?_
      rintro e w3 ⟨rfl, hb3⟩
      have HWR := Lib.hid (old_write (hI.out.below hb3) hi2 hlt (by omega))
      clear hb3 hI HS
      go_wp2_with fail
      refine HWR.out.mono ?_
      rintro e w4 ⟨rfl, hI4⟩
      have HI4 : Hid (OldI db fb w1.heap.size n (i + 1) (i + 1 - 2) [] w1 w4) := Lib.hid (by rw [show i + 1 - 2 = i - 2 + 1 by omega]; exact hI4)
      clear hI4 HWR
      go_wp2
      go_roundw
      case rel => exact ⟨i + 1, by omega, by omega, by go_num, HI4⟩
      case measure => simp [intOf]; omega
    · obtain rfl : i = n := by omega
      have HSY := Lib.hid (old_sync hI.out)
      clear hI
      go_wp2_with fail
      refine HSY.out.mono ?_
      rintro e w3 ⟨rfl, hI3⟩
      have HI3 := Lib.hid hI3
      clear hI3 HSY
      go_wp2
      go_loopw [15, 16] (fun tv iv wr => ∃ (k : Nat) (fs : List Int), k ≤ n1 ∧ iv = .int .i64 k ∧ Hid (∀ x ∈ fs, 2 ≤ x ∧ x < (i : Int)) ∧ Hid (fs.length = k) ∧ Hid (wr.ownsRow w3.heap.size 3 1 tv k (rowOf ncells fs)) ∧ Hid (Below w3.heap.size w3 wr)) (fun _ iv _ => n1 - (intOf iv).toNat)
      case atStart => exact ⟨0, [], Nat.zero_le _, rfl, Lib.hid (fun _ h => by cases h), Lib.hid rfl, Lib.hid (World.ownsRow_nil _ _ _ _), Lib.hid (Below.refl _ _)⟩
      case round =>
        obtain ⟨k, fs, hk, rfl, hlk, hfl, ho, hb⟩ := hrel
        obtain ⟨fp, fc, rfl⟩ := owns_slice ho.out
        have hbs := hb.out.size
        have HBL : Hid (Below w1.heap.size w1 wr) := Lib.hid (by
          obtain ⟨_, _, _, _, _, _, hD, _, _, _, _, _, _, h8, _, h10⟩ := HI3.out
          exact h10.trans (hb.out.mono (Nat.le_trans h8 (Nat.le_of_lt (hD.lt db hD.here)))))
        by_cases hlt : k < n1
        · obtain ⟨b, o, e, hbl, hc⟩ := (H1.out.below HBL.out).2 (by omega)
          have hcell := hc k hlt
          subst e
          clear hc
          generalize HL.el ls k = x at *
          have hcase : x < 2 ∨ (¬ x < 2 ∧ (i : Int) ≤ x) ∨ (¬ x < 2 ∧ ¬ (i : Int) ≤ x) := by omega
          rcases hcase with hx1 | ⟨hx1, hx2⟩ | ⟨hx1, hx2⟩
          · go_wp2_with fail
            refine (HA.out _).mono ?_
            rintro e w4 ⟨rfl, hb4⟩
            have HB := Lib.hid (HBL.out.trans (hb4.mono HBL.out.size))
            clear hb4
            go_wp2
            go_ret
            exact ⟨rfl, HB.out⟩
          · go_wp2_with fail
            refine (HA.out _).mono ?_
            rintro e w4 ⟨rfl, hb4⟩
            have HB := Lib.hid (HBL.out.trans (hb4.mono HBL.out.size))
            clear hb4
            go_wp2
            go_ret
            exact ⟨rfl, HB.out⟩
          · have HIN := Lib.hid (in_any fp k fc _ fs x wr (RdI.of_own ho.out hfl.out) (by omega))
            by_cases hx3 : x ∈ fs
            · rw [decide_eq_true hx3] at HIN
              clear hx3
              go_wp2_with fail
              refine HIN.out.mono ?_
              rintro e w4 ⟨rfl, rfl⟩
              go_wp2_with fail
              refine (HA.out _).mono ?_
              rintro e w5 ⟨rfl, hb5⟩
              have HB := Lib.hid (HBL.out.trans (hb5.mono HBL.out.size))
              clear hb5
              go_wp2
              go_ret
              exact ⟨rfl, HB.out⟩
            · rw [decide_eq_false hx3] at HIN
              have HNX2 : Hid (∀ y ∈ fs ++ [x], 2 ≤ y ∧ y < (i : Int)) := Lib.hid (fun y hy => by
                rcases List.mem_append.1 hy with hy | hy
                · exact hlk.out y hy
                · rw [List.mem_singleton] at hy
                  subst hy
                  omega)
              clear hx3
              go_wp2_with fail
              refine HIN.out.mono ?_
              rintro e w4 ⟨rfl, rfl⟩
              go_wp2_with (at_builtin; refine wpList_append_lies _ rfl _ _ 38 rfl w3.heap.size 3 i0 _ 1 8 Tryz.underlying38 hi0 hz0 hz1 hz2 rfl (by omega) _ k (rowOf ncells fs) rfl ?own ⟨w4.heap.size, 0, none⟩ 1 1 [.int .i64 x] rfl rfl ?cells ?one (by omega) ?len ?bytes ?base (w4.heap.size + 1) (by simp) ?_; (case own => exact ho.out.alloc _); (case cells => exact new_cells w4 _ _); (case one => simp [Value.oneCell']); (case len => unfold maxLen; omega); (case bytes => omega); (case base => simp; omega); intro g cap w5 hown hgr hat hg; (have HO3 : Hid (w5.ownsRow w3.heap.size 3 1 (.slice (some ⟨g, 0, none⟩) (k + 1) cap) (k + 1) (rowOf ncells (fs ++ [x]))) := Lib.hid (by rw [rowOf_append, rowOf_one]; exact hown)); (have HB3 : Hid (Below w3.heap.size w3 w5) := Lib.hid ((hb.out.alloc hb.out.size _).grown hgr (by simp; omega) (fun k hk => (ho.out.lt k hk).1))); (have HFL : Hid ((fs ++ [x]).length = k + 1) := Lib.hid (by simp [hfl.out])); clear hown hgr hat hg)
              go_roundw
              case rel => exact ⟨k + 1, fs ++ [x], by omega, by go_num, HNX2, HFL, HO3, HB3⟩
              case measure => simp [intOf]; omega
        · obtain rfl : k = n1 := by omega
          have hBK := old_back (c := fc) HI3.out hb.out ho.out hfl.out (by omega)
          have HBK := Lib.hid hBK
          have HFB := hlk
          clear ho hb hlk HI3 hBK HBL
          go_wp2_with fail
          refine HBK.out.mono ?_
          rintro e w4 ⟨rfl, hI4⟩
          have HNW := Lib.hid (back_pager hI4 hna (by omega) HFB.out (by rw [hfl.out]; omega))
          clear hI4 HBK
          go_wp2_with fail
          refine HNW.out.mono ?_
          rintro e w5 ⟨pb, rfl, hI5⟩
          have HI5 := Lib.hid hI5
          clear hI5 HNW
          go_wp2
          have hfe := hfl.out
          have hF30 : fs.length ≤ 30 := by omega
          go_loopw [19, 20, 21, 22, 23] (fun iv _ _ _ _ wr => ∃ j : Nat, j ≤ n2 ∧ iv = .int .i64 j ∧ Hid (KeepI pb db w1.heap.size i fp fs j w1 wr)) (fun iv _ _ _ _ _ => n2 - (intOf iv).toNat)
          case atStart => exact ⟨0, Nat.zero_le _, rfl, HI5⟩
          case round =>
            clear HI5
            obtain ⟨j, hj, rfl, hI⟩ := hrel
            by_cases hj2 : j < n2
            · obtain ⟨b, o, e, hbl, x0, x1, x2, x3, x4⟩ := op_cells (H2.out.below hI.out.bel) j hj2
              subst e
              have HCE : Hid (∀ W, Below w1.heap.size w1 W → W.cell? ⟨b, o + j * 5 + 2, none⟩ = some (.int .i64 (opAt ops j).pk) ∧ W.cell? ⟨b, o + j * 5 + 3, none⟩ = some (.int .i64 (opAt ops j).pn) ∧ W.cell? ⟨b, o + j * 5 + 4, none⟩ = some (.string (opAt ops j).pb)) := Lib.hid (fun W hW => by
                obtain ⟨b', o', e', _, _, _, y2, y3, y4⟩ := op_cells (H2.out.below hW) j hj2
                injection e' with e'
                injection e' with e1 e2 _
                subst e1
                subst e2
                exact ⟨y2, y3, y4⟩)
              have HMK := Lib.hid (keep_make (opAt ops j).pk (opAt ops j).pn (opAt ops j).pb hI.out HFB.out hna (by have := HSZ.out j hj2; omega) (by omega))
              have HDR := Lib.hid (keep_drop (opAt ops j).n hI.out (HW.out j hj2) (by omega) (by omega))
              have HMO := Lib.hid hI.out.more
              generalize (opAt ops j).k = kind at *
              generalize (opAt ops j).n = nn at *
              generalize (opAt ops j).pk = qk at *
              generalize (opAt ops j).pn = qn at *
              generalize (opAt ops j).pb = qb at *
              clear hI
              have hcase : kind = 1 ∨ (kind ≠ 1 ∧ kind = 3) ∨ (kind ≠ 1 ∧ kind ≠ 3) := by omega
              rcases hcase with h1 | ⟨h1, h3⟩ | ⟨h1, h3⟩
              · have hb1 : (kind == 1) = true := by rw [beq_iff_eq]; exact h1
                clear h1 HDR HMO
                go_wp2_with fail
                refine HMK.out.mono ?_
                rintro e w6 (⟨c, hc, rfl, hI6⟩ | ⟨x, rfl, hxin, hxa, hxb, hM6⟩)
                · have HI6 := Lib.hid hI6
                  have hcb : (c != 0) = true := by rw [bne_iff_ne]; exact hc
                  clear hI6 HMK x0 x1 x2 x3 x4 hc HCE
                  go_wp2
                  go_roundw
                  case rel => exact ⟨j + 1, by omega, by go_num, HI6⟩
                  case measure => simp [intOf]; omega
                · have HM6 := Lib.hid hM6
                  have hrd := keep_read hM6
                  unfold pgv at hrd
                  have HRD := Lib.hid hrd
                  clear hM6 hrd HMK x0 x1 x2 x3 x4
                  go_wp2_with fail
                  refine HRD.out.mono ?_
                  rintro e w7 ⟨rfl, hb7⟩
                  have HM8 := Lib.hid ((HM6.out.below hb7).below ((Below.refl _ w7).alloc (o := .cells #[.int .i64 qk, .int .i64 qn, .string qb] 23) (Nat.le_refl _)))
                  have hnp := new_page w7 qk qn qb
                  have hz : ((w7.alloc (.cells #[.int .i64 qk, .int .i64 qn, .string qb] 23))).heap.size = w7.heap.size + 1 := by simp
                  have a0 : ∀ q : Later (w7.alloc (.cells #[.int .i64 qk, .int .i64 qn, .string qb] 23)), q.1.cell? ⟨w7.heap.size, 0, none⟩ = some (.int .i64 qk) := fun q => (q.2.cell (p := ⟨w7.heap.size, 0, none⟩) (by show w7.heap.size < _; omega)).trans hnp.1
                  have a1 : ∀ q : Later (w7.alloc (.cells #[.int .i64 qk, .int .i64 qn, .string qb] 23)), q.1.cell? ⟨w7.heap.size, 1, none⟩ = some (.int .i64 qn) := fun q => (q.2.cell (p := ⟨w7.heap.size, 1, none⟩) (by show w7.heap.size < _; omega)).trans hnp.2.1
                  have a2 : ∀ q : Later (w7.alloc (.cells #[.int .i64 qk, .int .i64 qn, .string qb] 23)), q.1.cell? ⟨w7.heap.size, 2, none⟩ = some (.string qb) := fun q => (q.2.cell (p := ⟨w7.heap.size, 2, none⟩) (by show w7.heap.size < _; omega)).trans hnp.2.2
                  have hcs : ∀ q : Later (w7.alloc (.cells #[.int .i64 qk, .int .i64 qn, .string qb] 23)), q.1.cell? ⟨b, o + j * 5 + 2, none⟩ = some (.int .i64 qk) ∧ q.1.cell? ⟨b, o + j * 5 + 3, none⟩ = some (.int .i64 qn) ∧ q.1.cell? ⟨b, o + j * 5 + 4, none⟩ = some (.string qb) := fun q => HCE.out _ (HM8.out.below q.2).toI.bel
                  have x2 := fun q => (hcs q).1
                  have x3 := fun q => (hcs q).2.1
                  have x4 := fun q => (hcs q).2.2
                  have hne := HNE.out qk qn qb
                  have HOW : Hid (∀ q : Later (w7.alloc (.cells #[.int .i64 qk, .int .i64 qn, .string qb] 23)), _) := Lib.hid (fun q => keep_own (HM8.out.below q.2))
                  have hin : ∀ q : Later (w7.alloc (.cells #[.int .i64 qk, .int .i64 qn, .string qb] 23)), _ := fun q => keep_in x (c := fc) (HM8.out.below q.2).toI (by omega)
                  clear hb7 HRD HM6 HCE hnp hz hcs
                  by_cases hxp : x < (i : Int)
                  · have hxq : decide (x < (i : Int)) = true := decide_eq_true hxp
                    rw [decide_eq_true (hxin hxp), hfe] at hin
                    have HIN := Lib.hid hin
                    clear hxin hin
                    go_wp2_with fail
                    refine wp_region_later (by kernel_rfl) (by kernel_rfl) ?_
                    repeat (go_big_quiet_step (first
                      | (go_at_call 27; exact Calls.later_of (HOW.out _))
                      | (go_at_call 15; exact Calls.later_same (HIN.out _))))
                    refine wpQuiet_nil ?_
                    intro _ hw'
                    obtain ⟨⟨wq, hq⟩, hw''⟩ := hw'
                    subst hw''
                    have HI9 := Lib.hid (HM8.out.below hq).toI
                    clear hq a0 a1 a2 x2 x3 x4 hne HOW HM8 HIN
                    go_wp2
                    go_roundw
                    case rel => exact ⟨j + 1, by omega, by go_num, HI9⟩
                    case measure => simp [intOf]; omega
                  · have hxq : decide (x < (i : Int)) = false := decide_eq_false hxp
                    have HIN := Lib.hid hin
                    clear hxin hin
                    go_wp2_with fail
                    refine wp_region_later (by kernel_rfl) (by kernel_rfl) ?_
                    repeat (go_big_quiet_step (first
                      | (go_at_call 27; exact Calls.later_of (HOW.out _))
                      | (go_at_call 15; exact Calls.later_same (HIN.out _))))
                    refine wpQuiet_nil ?_
                    intro _ hw'
                    obtain ⟨⟨wq, hq⟩, hw''⟩ := hw'
                    subst hw''
                    have HI9 := Lib.hid (HM8.out.below hq).toI
                    clear hq a0 a1 a2 x2 x3 x4 hne HOW HM8 HIN
                    go_wp2
                    go_roundw
                    case rel => exact ⟨j + 1, by omega, by go_num, HI9⟩
                    case measure => simp [intOf]; omega
              · have hb1 : (kind == 1) = false := by rw [beq_eq_false_iff_ne]; exact h1
                have hb3 : (kind == 3) = true := by rw [beq_iff_eq]; exact h3
                clear h1 h3 HMK HMO HCE
                go_wp2_with fail
                refine HDR.out.mono ?_
                rintro e w6 ⟨⟨ry, rfl⟩, hI6⟩
                have HI6 := Lib.hid hI6
                clear hI6 HDR x0 x1 x2 x3 x4
                go_wp2
                go_roundw
                case rel => exact ⟨j + 1, by omega, by go_num, HI6⟩
                case measure => simp [intOf]; omega
              · have hb1 : (kind == 1) = false := by rw [beq_eq_false_iff_ne]; exact h1
                have hb3 : (kind == 3) = false := by rw [beq_eq_false_iff_ne]; exact h3
                clear h1 h3 HMK HDR HCE
                go_wp2
                go_roundw
                case rel => exact ⟨j + 1, by omega, by go_num, HMO⟩
                case measure => simp [intOf]; omega
            · obtain rfl : j = n2 := by omega
              have HFL := Lib.hid (keep_flush hI.out (by omega) (by omega))
              clear hI
              go_wp2_with fail
              refine HFL.out.mono ?_
              rintro e w6 ⟨rfl, hI6⟩
              have HSY := Lib.hid (flush_sync hI6)
              clear hI6 HFL
              go_wp2_with fail
              refine HSY.out.mono ?_
              rintro e w7 ⟨rfl, hI7⟩
              have HI7 := Lib.hid hI7
              clear hI7 HSY
              go_wp2
              go_loopw [24, 25, 26, 27, 28] (fun iv _ _ _ _ wr => ∃ q : Nat, 2 ≤ q ∧ q ≤ i ∧ iv = .int .i64 q ∧ Hid (FlushI pb db w1.heap.size i fp fs w1 wr)) (fun iv _ _ _ _ _ => i - (intOf iv).toNat)
              case atStart => exact ⟨2, Nat.le_refl _, hna, rfl, HI7⟩
              case round =>
                clear HI7
                obtain ⟨q, hq2, hqi, rfl, hI⟩ := hrel
                by_cases hlt : q < i
                · have HRD := Lib.hid (flush_read q hI.out hq2 hlt)
                  go_wp2_with fail
                  refine HRD.out.mono ?_
                  rintro e w8 ⟨S, rfl, hS, rfl⟩
                  clear HRD
                  by_cases hm : (q : Int) ∈ fs
                  · clear hS
                    obtain ⟨k2, n3, s3, code, hop⟩ := ref_some q S
                    have HOP := Lib.hid (hop w8)
                    clear hop
                    go_wp2_with fail
                    refine HOP.out.mono ?_
                    rintro e w9 ⟨rfl, hb9⟩
                    have HI9 := Lib.hid ((hI.out.below hb9).below ((Below.refl _ w9).alloc (o := .cells #[.int .i64 k2, .int .i64 n3, .string s3] 23) (Nat.le_refl _)))
                    have hin := flush_in (q : Int) (c := fc) HI9.out (by omega)
                    rw [decide_eq_true hm, hfe] at hin
                    have HIN := Lib.hid hin
                    clear hb9 HOP hI hin hm
                    go_wp2_with fail
                    refine HIN.out.mono ?_
                    rintro e wa ⟨rfl, rfl⟩
                    clear HIN
                    go_wp2
                    go_roundw
                    case rel => exact ⟨q + 1, by omega, by omega, by go_num, HI9⟩
                    case measure => simp [intOf]; omega
                  · obtain rfl := hS hm
                    have hop := old_open q (by omega) w8
                    unfold pgv oldB at hop
                    have HOP := Lib.hid hop
                    clear hop hS
                    go_wp2_with fail
                    refine HOP.out.mono ?_
                    rintro e w9 ⟨rfl, hb9⟩
                    have HI9 := Lib.hid ((hI.out.below hb9).below ((Below.refl _ w9).alloc (o := .cells #[.int .i64 2, .int .i64 0, .string ⟨#[111, 108, 100]⟩] 23) (Nat.le_refl _)))
                    have hin := flush_in (q : Int) (c := fc) HI9.out (by omega)
                    rw [decide_eq_false hm, hfe] at hin
                    have HIN := Lib.hid hin
                    obtain ⟨a0, a1, a2⟩ := new_page w9 2 0 ⟨#[111, 108, 100]⟩
                    clear hb9 HOP hI hin hm
                    go_wp2_with fail
                    refine HIN.out.mono ?_
                    rintro e wa ⟨rfl, rfl⟩
                    clear HIN
                    go_wp2
                    go_roundw
                    case rel => exact ⟨q + 1, by omega, by omega, by go_num, HI9⟩
                    case measure => simp [intOf]; omega
                · obtain rfl : q = i := by omega
                  have HBE := Lib.hid hI.out.bel
                  clear hI
                  go_wp2_with fail
                  refine (HA.out _).mono ?_
                  rintro e w8 ⟨rfl, hb8⟩
                  have HB := Lib.hid (HBE.out.trans (hb8.mono HBE.out.size))
                  clear hb8
                  go_wp2
                  go_ret
                  exact ⟨rfl, HB.out⟩

set_option maxHeartbeats 2000000 in
set_option maxRecDepth 100000 in
theorem keeps_walk (pages : Int) (p1 p2 : Option Addr) (n1 c1 n2 c2 : Nat) (ls : List Int) (ops : List OpV) (w : World) (h1 : RdI w w.heap.size p1 n1 ls) (h2 : RdG ocells w w.heap.size p2 n2 ops) (hw : ∀ z ∈ ops, opok z) :
    Calls Tryz.prog 5 #[.int .i64 pages, .slice p1 n1 c1, .slice p2 n2 c2] w fun e w' => e = .returned (.bool true) ∧ Below w.heap.size w w' := by
  have HA := Lib.hid (fun w => galive_true w)
  have hop : ∀ i, i < n2 → opok (opAt ops i) := fun i hi => by
    have hl : i < ops.length := by rw [h2.1]; exact hi
    have e : opAt ops i = ops[i] := by
      unfold opAt
      rw [List.getD_eq_getElem?_getD, List.getElem?_eq_getElem hl]
      rfl
    rw [e]
    exact hw _ (List.getElem_mem hl)
  have HLT := light_any p2 n2 c2 _ ops w h2 (fun i hi => by have := (hop i hi).2.2.2.2; unfold maxLen at this; omega)
  by_cases hc : n2 ≤ 150 ∧ ∀ i, i < n2 → (opAt ops i).pb.size ≤ 300
  · have HLG : Hid (Calls Tryz.prog 14 #[.slice p2 n2 c2] w fun e w' => e = .returned (.bool true) ∧ w' = w) := Lib.hid (HLT.mono fun e w' ⟨b, he, hw', hb⟩ => by
      have e1 : b = true := hb.2 hc
      rw [e1] at he
      exact ⟨he, hw'⟩)
    have hcase : pages < 2 ∨ (¬ pages < 2 ∧ 30 < pages) ∨ (¬ pages < 2 ∧ ¬ 30 < pages ∧ (30 : Int) < (n1 : Int)) ∨ (2 ≤ pages ∧ pages ≤ 30 ∧ n1 ≤ 30) := by omega
    rcases hcase with hg | ⟨hg, hg2⟩ | ⟨hg, hg2, hg3⟩ | ⟨hg, hg2, hg3⟩
    case inr.inr.inr =>
      obtain ⟨n, rfl⟩ : ∃ n : Nat, pages = n := ⟨pages.toNat, by omega⟩
      exact keeps_core n p1 p2 n1 c1 n2 c2 ls ops w h1 h2 (fun i hi => (hop i hi).2.1) (by omega) (by omega) hg3 hc.1 hc.2 HLG
    all_goals
      clear h1 h2 hw hop HLT hc
      go_enter Tryz.func5, Tryz.ntmps5
      go_wp2_with fail
      refine HLG.out.mono ?_
      rintro e w1 ⟨rfl, rfl⟩
      go_wp2_with fail
      refine (HA.out _).mono ?_
      rintro e w3 ⟨rfl, hb3⟩
      have HB := Lib.hid hb3
      clear hb3
      go_wp2
      go_ret
      exact ⟨rfl, HB.out⟩
  · have HLG : Hid (Calls Tryz.prog 14 #[.slice p2 n2 c2] w fun e w' => e = .returned (.bool false) ∧ w' = w) := Lib.hid (HLT.mono fun e w' ⟨b, he, hw', hb⟩ => by
      have e1 : b = false := by
        cases b
        · rfl
        · exact absurd (hb.1 rfl) hc
      rw [e1] at he
      exact ⟨he, hw'⟩)
    clear h1 h2 hw hop HLT hc
    go_enter Tryz.func5, Tryz.ntmps5
    go_wp2_with fail
    refine HLG.out.mono ?_
    rintro e w1 ⟨rfl, rfl⟩
    go_wp2_with fail
    refine (HA.out _).mono ?_
    rintro e w3 ⟨rfl, hb3⟩
    have HB := Lib.hid hb3
    clear hb3
    go_wp2
    go_ret
    exact ⟨rfl, HB.out⟩
end Go.Proofs.YtoagbcbkaloacaaGreatDoor
