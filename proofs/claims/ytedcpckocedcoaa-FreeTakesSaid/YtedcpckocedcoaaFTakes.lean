/- arboretumlaw6.FreeTakes returns true, whatever its arguments. -/
import Derived.Test.YtedcpckocedcoaaFTakesL
namespace Go.Proofs.Ytedcpckocedcoaa
open Go.RowKit

set_option maxHeartbeats 2000000 in
set_option maxRecDepth 100000 in
theorem takes_no (p : Option Addr) (m c : Nat) (n : Int) (w : World) (h : 60 < m ∨ n < 0 ∨ (m : Int) < n) : Calls Try.prog 5 #[.slice p m c, .int .i64 n] w fun e w' => e = .returned (.bool true) ∧ Below w.heap.size w w' := by
  have HA := Lib.hid (fun w => falive_true w)
  have h6 : 60 < m ∨ (¬ 60 < m ∧ n < 0) ∨ (¬ 60 < m ∧ ¬ n < 0 ∧ (m : Int) < n) := by omega
  clear h
  rcases h6 with h1 | ⟨h1, h2⟩ | ⟨h1, h2, h3⟩
  all_goals
    go_enter Try.func5, Try.ntmps5
    go_wp2_with fail
    refine (HA.out _).mono ?_
    rintro e w3 ⟨rfl, hb3⟩
    have HB := Lib.hid hb3
    clear hb3
    go_wp2
    go_ret
    exact ⟨rfl, HB.out⟩

set_option maxHeartbeats 4000000 in
set_option maxRecDepth 100000 in
theorem takes_yes (p : Option Addr) (m c n : Nat) (zs : List Int) (w : World) (h : RdI w w.heap.size p m zs) (hm : m ≤ 60) (hn : n ≤ m) : Calls Try.prog 5 #[.slice p m c, .int .i64 n] w fun e w' => e = .returned (.bool true) ∧ Below w.heap.size w w' := by
  obtain ⟨i0, hi0, hz0, hz1, hz2⟩ := info_parts info_int
  have HA := Lib.hid (fun w => falive_true w)
  have HN := Lib.hid (fe_new p m c zs w h (by omega))
  have HZL := Lib.hid h.1
  have g1 : ¬ (60 < m) := by omega
  have g2 : ¬ ((n : Int) < 0) := by omega
  have g3 : ¬ ((m : Int) < (n : Int)) := by omega
  clear h
  go_enter Try.func5, Try.ntmps5
  go_wp2_with fail
  refine HN.out.mono ?_
  rintro e w1 ⟨rfl, l1, F1, hI1, hp1, hb1⟩
  have hl1 : l1.length = m := by rw [hp1.length_eq, HZL.out]
  have HLN := Lib.hid (fe_len hI1)
  rw [hl1] at HLN
  have HI1 : Hid (TkI w.heap.size zs [] l1 F1 (.slice none 0 0) w w1) := Lib.hid ⟨hI1, World.ownsRow_nil _ _ _ _, (fun g hg => by cases hg), by simpa using hp1, (fun e => absurd rfl e), hb1, Nat.le_refl _⟩
  have HL1 := Lib.hid hl1
  have hmm : ((m : Int) != (m : Int)) = false := by simp
  clear hI1 hp1 hb1 hl1 HN
  go_wp2_with fail
  refine HLN.out.mono ?_
  rintro e w2 ⟨rfl, rfl⟩
  go_wp2
  go_loopw [6, 7, 8, 9, 43] (fun tv iv _ _ _ wr => ∃ (k : Nat) (ts l : List Int) (F : Nat → Prop), k ≤ n ∧ iv = .int .i64 k ∧ Hid (TkI w.heap.size zs ts l F tv w wr) ∧ Hid (ts.length = k) ∧ Hid (ts.length + l.length = m)) (fun _ iv _ _ _ _ => n - (intOf iv).toNat)
  case atStart => exact ⟨0, [], l1, F1, Nat.zero_le _, rfl, HI1, Lib.hid rfl, Lib.hid (by simpa using HL1.out)⟩
  case round =>
    clear HI1
    obtain ⟨k, ts, l, F, hk, rfl, hT, hts, htl⟩ := hrel
    by_cases hlt : k < n
    · have HTK := Lib.hid (tk_take hT.out (by have := hts.out; have := htl.out; omega))
      clear hT
      go_wp2_with fail
      refine HTK.out.mono ?_
      rintro e w2 ⟨x, rfl, hlast, l', F', hM⟩
      have HM := Lib.hid hM
      have HLL : Hid ((ts ++ [x]).length + l'.length = m) := Lib.hid (by
        have e1 := hM.perm.length_eq
        have e2 := HZL.out
        simp only [List.length_append, List.length_cons, List.length_nil] at e1 ⊢
        omega)
      have HLK : Hid ((ts ++ [x]).length = k + 1) := Lib.hid (by simp [hts.out])
      have hrow := hM.row
      have hbs := hM.bel.size
      rw [hts.out] at hrow
      have HROW := Lib.hid hrow
      clear HTK hM
      rcases Nat.eq_zero_or_pos k with hk0 | hk0
      · have hkk : ¬ ((0 : Int) < (k : Int)) := by omega
        clear hrow hlast
        go_wp2_with (at_builtin; refine wpList_append_lies _ rfl _ _ 22 rfl w.heap.size 3 i0 _ 1 8 Try.underlying22 hi0 hz0 hz1 hz2 rfl (by omega) _ k (rowOf ncells ts) rfl ?own ⟨w2.heap.size, 0, none⟩ 1 1 [.int .i64 x] rfl rfl ?cells ?one (by omega) ?len ?bytes ?base (w2.heap.size + 1) (by simp) ?_; (case own => exact HROW.out.alloc _); (case cells => exact new_cells w2 _ _); (case one => simp [Value.oneCell']); (case len => unfold maxLen; omega); (case bytes => omega); (case base => simp; omega); intro g cap w3 hown hgr hat hg; (have HAP := Lib.hid (tk_app HM.out (by rw [hts.out]; exact hown) hgr hat)); clear hown hgr hat hg)
        go_roundw
        case rel =>
          subst hk0
          exact ⟨1, ts ++ [x], l', F', by omega, rfl, (by have e := HAP; rw [hts.out] at e; exact e), Lib.hid HLK.out, HLL⟩
        case measure => simp [intOf]; omega
      · obtain ⟨j, rfl⟩ : ∃ j, k = j + 1 := ⟨k - 1, by omega⟩
        have hkk : (0 : Int) < ((j + 1 : Nat) : Int) := by omega
        obtain ⟨g0, cap0, hv0, _, _, _⟩ := owns_len hrow (by omega)
        have hc0 : w2.cell? ⟨g0, j, none⟩ = some (.int .i64 (HL.el ts j)) := by
          have e := hrow.cells (g := g0) (by rw [hv0]; rfl) j (.int .i64 (HL.el ts j)) (by
            have r0 := rowOf_at ncells ncells_length ts j 0 (by rw [hts.out]; omega) (by omega)
            rw [Nat.mul_one, Nat.add_zero] at r0
            exact r0)
          rw [add_at, Nat.zero_add] at e
          exact e
        have hno : ¬ x < HL.el ts j := by
          have e := hlast (fun e => by have := hts.out; rw [e] at this; cases this)
          rw [hts.out, Nat.add_sub_cancel] at e
          omega
        have hij : ((j + 1 : Nat) : Int) - 1 = (j : Int) := by omega
        generalize HL.el ts j = y at *
        subst hv0
        clear hrow hlast
        go_wp2_with (at_builtin; refine wpList_append_lies _ rfl _ _ 22 rfl w.heap.size 3 i0 _ 1 8 Try.underlying22 hi0 hz0 hz1 hz2 rfl (by omega) _ (j + 1) (rowOf ncells ts) rfl ?own ⟨w2.heap.size, 0, none⟩ 1 1 [.int .i64 x] rfl rfl ?cells ?one (by omega) ?len ?bytes ?base (w2.heap.size + 1) (by simp) ?_; (case own => exact HROW.out.alloc _); (case cells => exact new_cells w2 _ _); (case one => simp [Value.oneCell']); (case len => unfold maxLen; omega); (case bytes => omega); (case base => simp; omega); intro g cap w3 hown hgr hat hg; (have HAP := Lib.hid (tk_app HM.out (by rw [hts.out]; exact hown) hgr hat)); clear hown hgr hat hg)
        go_roundw
        case rel => exact ⟨j + 2, ts ++ [x], l', F', by omega, by go_num, (by have e := HAP; rw [hts.out] at e; exact e), HLK, HLL⟩
        case measure => simp [intOf]; omega
    · obtain rfl : k = n := by omega
      obtain ⟨tp, tc, htv⟩ := owns_slice hT.out.row
      rw [hts.out] at htv
      subst htv
      have HAL := Lib.hid (fe_all hT.out.fe (by have := htl.out; simp; omega))
      have HT := hT
      have hlk : l.length = m - k := by have := hts.out; have := htl.out; omega
      have HLK := Lib.hid hlk
      clear hT hlk
      go_wp2_with fail
      refine HAL.out.mono ?_
      rintro e w2 ⟨wu, rfl, ho, hb2⟩
      obtain ⟨wp, wc, hwu⟩ := owns_slice ho
      rw [List.length_nil, Nat.add_zero, HLK.out] at hwu
      subst hwu
      have HB : Hid (BkI w.heap.size ts (m - k) 0 F (.slice tp k tc) w w2) := Lib.hid ⟨⟨l, [], HT.out.fe.below hb2, by have := HLK.out; simp; omega, rfl⟩, (Fr.of_all (S := fun _ => False) hb2).owns HT.out.row (fun _ _ h => h), HT.out.off, HT.out.bel.trans (hb2.mono HT.out.bel.size), HT.out.fbb⟩
      clear ho hb2 HAL HT
      go_wp2
      go_loopw [11] (fun iv wr => ∃ (i : Nat) (F' : Nat → Prop), i ≤ k ∧ iv = .int .i64 i ∧ Hid (BkI w.heap.size ts (m - k) i F' (.slice tp k tc) w wr)) (fun iv _ => k - (intOf iv).toNat)
      case atStart => exact ⟨0, F, Nat.zero_le _, rfl, HB⟩
      case round =>
        clear HB
        obtain ⟨i, F', hi, rfl, hB⟩ := hrel
        by_cases hik : i < k
        · have hrow := hB.out.row
          have hbs := hB.out.bel.size
          rw [hts.out] at hrow
          obtain ⟨g0, cap0, hv0, _, _, _⟩ := owns_len hrow (by omega)
          injection hv0 with hv1 _ hv3
          subst hv1 hv3
          have hc0 : wr.cell? ⟨g0, i, none⟩ = some (.int .i64 (HL.el ts i)) := by
            have e := hrow.cells (g := g0) rfl i (.int .i64 (HL.el ts i)) (by
              have r0 := rowOf_at ncells ncells_length ts i 0 (by rw [hts.out]; omega) (by omega)
              rw [Nat.mul_one, Nat.add_zero] at r0
              exact r0)
            rw [add_at, Nat.zero_add] at e
            exact e
          have HBK := Lib.hid (fun (h : i % 2 = 0) => bk_back (HL.el ts i) hB.out (by omega) h)
          have HGV := Lib.hid (fun (h : i % 2 = 1) => bk_give (HL.el ts i) hB.out (by omega) h)
          have hrem : Int.tmod (i : Int) 2 = ((i % 2 : Nat) : Int) := Int.ofNat_tmod _ _
          generalize HL.el ts i = x at *
          clear hrow hB
          rcases Nat.mod_two_eq_zero_or_one i with h2 | h2
          · rw [h2] at hrem
            have HBK2 := Lib.hid (HBK.out h2)
            clear HBK HGV h2
            go_wp2_with fail
            refine HBK2.out.mono ?_
            rintro e w3 ⟨rfl, F3, hB3⟩
            have HB3 := Lib.hid hB3
            clear hB3 HBK2
            go_wp2
            go_roundw
            case rel => exact ⟨i + 1, F3, by omega, by go_num, HB3⟩
            case measure => simp [intOf]; omega
          · rw [h2] at hrem
            have HGV2 := Lib.hid (HGV.out h2)
            clear HBK HGV h2
            go_wp2_with fail
            refine HGV2.out.mono ?_
            rintro e w3 ⟨rfl, F3, hB3⟩
            have HB3 := Lib.hid hB3
            clear hB3 HGV2
            go_wp2
            go_roundw
            case rel => exact ⟨i + 1, F3, by omega, by go_num, HB3⟩
            case measure => simp [intOf]; omega
        · obtain rfl : i = k := by omega
          obtain ⟨lb, wb, hIb, hbl, hbw⟩ := hB.out.fe
          have HBB := Lib.hid hB.out.bel
          have HGE : Hid (∀ k, F' k → w.heap.size ≤ k) := Lib.hid hIb.ge
          have hdiv : Int.tdiv (i : Int) 2 = ((i / 2 : Nat) : Int) := Int.ofNat_tdiv _ _
          have HWT := Lib.hid (fe_waiting hIb)
          rw [hbw] at HWT
          have HAL := Lib.hid (fe_all hIb (by omega))
          rw [show lb.length + wb.length = m by omega] at HAL
          have HIB := Lib.hid hIb
          have HBL : Hid (lb.length + wb.length = m) := Lib.hid (by omega)
          have HBW := Lib.hid hbw
          clear hIb hbl hbw hB
          go_wp2_with fail
          refine HWT.out.mono ?_
          rintro e w3 ⟨rfl, rfl⟩
          have hw1 : IntKind.i64.wrap (Int.tdiv (i : Int) 2) = ((i / 2 : Nat) : Int) := by rw [hdiv]; exact IntWalk.i64_in _ ⟨by omega, by omega⟩
          have hw2 : (((i / 2 : Nat) : Int) != ((i / 2 : Nat) : Int)) = false := by simp
          have hw3 : (((i / 2 : Nat) : Int) == ((i / 2 : Nat) : Int)) = true := by simp
          go_wp2_with fail
          refine HAL.out.mono ?_
          rintro e w4 ⟨u2, rfl, ho2, hb4⟩
          obtain ⟨p2, c2, rfl⟩ := owns_slice ho2
          have HI4 := Lib.hid (HIB.out.below hb4)
          have HB4 := Lib.hid (HBB.out.trans (hb4.mono HBB.out.size))
          have HRL := Lib.hid (release_all HI4.out (by omega) (by have := HBL.out; omega))
          rw [HBW.out] at HRL
          clear ho2 hb4 HAL HIB HBB HWT
          go_wp2_with fail
          refine HRL.out.mono ?_
          rintro e w5 ⟨rfl, l5, F5, hI5, hp5, hS5⟩
          have hl5 : l5.length = m := by rw [hp5.length_eq, List.length_append]; have := HBL.out; simp only [pagesOf, List.length_map]; omega
          have HL5 := Lib.hid hl5
          have HI5 := Lib.hid hI5
          have HB5 := Lib.hid (HB4.out.trans (hS5.1.below HB4.out.size HGE.out))
          clear hI5 hp5 hS5 hl5 HRL HI4 HB4
          go_wp2_with fail
          refine (HA.out _).mono ?_
          rintro e w6 ⟨rfl, hb6⟩
          have HI6 := Lib.hid (HI5.out.below hb6)
          have HB6 := Lib.hid (HB5.out.trans (hb6.mono HB5.out.size))
          have HW6 := Lib.hid (fe_waiting HI6.out)
          have HL6 := Lib.hid (fe_len HI6.out)
          have HS6 := Lib.hid (fe_list HI6.out)
          rw [List.length_nil] at HW6
          rw [HL5.out] at HL6 HS6
          clear hb6 HI5 HB5
          go_wp2_with fail
          refine HW6.out.mono ?_
          rintro e w7 ⟨rfl, rfl⟩
          go_wp2_with fail
          refine HL6.out.mono ?_
          rintro e w7 ⟨rfl, rfl⟩
          have hq : IntKind.i64.wrap ((m : Int) - (i : Int)) = (m : Int) - (i : Int) := IntWalk.i64_in _ ⟨by omega, by omega⟩
          have hq2 : (((m - i : Nat) : Int) == (m : Int) - (i : Int)) = true := by rw [beq_iff_eq]; omega
          have hmq : ((m : Int) == (m : Int)) = true := by simp
          go_wp2_with fail
          refine HS6.out.mono ?_
          rintro e w8 ⟨u8, rfl, ho8, hb8⟩
          obtain ⟨p8, c8, rfl⟩ := owns_slice ho8
          have hr8 := RdI.of_own ho8 (by rw [CL.srt_length, HL5.out])
          have HI8 := Lib.hid (HI6.out.below hb8)
          have HB8 := Lib.hid (HB6.out.trans (hb8.mono HB6.out.size))
          have HA8 := Lib.hid (fe_all HI8.out (by rw [HL5.out]; simp; omega))
          rw [List.length_nil, Nat.add_zero, HL5.out] at HA8
          have HR8 := Lib.hid hr8
          clear ho8 hb8 hr8 HS6 HW6 HL6 HI6 HB6
          go_wp2_with fail
          refine HA8.out.mono ?_
          rintro e w9 ⟨u9, rfl, ho9, hb9⟩
          obtain ⟨p9, c9, rfl⟩ := owns_slice ho9
          have hnil : l5 ++ pagesOf [] = l5 := by simp [pagesOf]
          rw [hnil] at ho9
          have hr9 := RdI.of_own ho9 (by rw [CL.srt_length, HL5.out])
          have HSM := Lib.hid (same_ints p8 p9 m c8 m c9 _ _ w9 _ _ ((HR8.out.below hb9).more hb9.size) hr9 (by omega) (by omega))
          have HB9 := Lib.hid (HB8.out.trans (hb9.mono HB8.out.size))
          clear ho9 hb9 hr9 hnil HA8 HI8 HB8 HR8
          go_wp2_with fail
          refine HSM.out.mono ?_
          rintro e w10 ⟨bo, nd, rfl, hbo, hw⟩
          obtain rfl : bo = true := hbo.2 rfl
          have HB10 : Hid (Below w.heap.size w w10) := Lib.hid (HB9.out.trans (show Below w.heap.size w9 w10 by rw [hw]; exact ((Fr.refl (fun _ => False) _).drewN _).below HB9.out.size (fun _ h => h.elim)))
          clear hbo hw HSM HB9
          go_wp2
          go_ret
          exact ⟨rfl, HB10.out⟩

theorem takes_walk (p : Option Addr) (m c : Nat) (zs : List Int) (n : Int) (w : World) (h : RdI w w.heap.size p m zs) : Calls Try.prog 5 #[.slice p m c, .int .i64 n] w fun e w' => e = .returned (.bool true) ∧ Below w.heap.size w w' := by
  by_cases hno : 60 < m ∨ n < 0 ∨ (m : Int) < n
  · exact takes_no p m c n w hno
  · obtain ⟨k, rfl⟩ : ∃ k : Nat, n = k := ⟨n.toNat, by omega⟩
    exact takes_yes p m c k zs w h (by omega) (by omega)
end Go.Proofs.Ytedcpckocedcoaa
