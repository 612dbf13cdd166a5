/- arboretumlaw7.PagerUndoes: the walk. -/
import Derived.Test.YtoagbcbkaloacaaGreatDoorGBaseS
import Derived.Test.YtoagbcbkaloacaaGreatDoorGUndoesL
import Derived.Test.YtoagbcbkaloacaaGreatDoorGOpen
namespace Go.Proofs.YtoagbcbkaloacaaGreatDoor
open Go.RowKit Go.Maps Go.Conc

set_option maxHeartbeats 8000000 in
set_option maxRecDepth 100000 in
theorem undoes_core (p1 p2 : Option Addr) (n1 c1 n2 c2 : Nat) (ls : List Int) (ops : List OpV) (w : World) (h1 : RdI w w.heap.size p1 n1 ls) (h2 : RdG ocells w w.heap.size p2 n2 ops) (hw : ∀ i, i < n2 → i64w (opAt ops i).n) (hn1 : n1 ≤ 20) (hn2 : n2 ≤ 150) (hsz : ∀ i, i < n2 → (opAt ops i).pb.size ≤ 300)
    (HLG : Hid (Calls Tryz.prog 14 #[.slice p2 n2 c2] w fun e w' => e = .returned (.bool true) ∧ w' = w)) :
    Calls Tryz.prog 4 #[.slice p1 n1 c1, .slice p2 n2 c2] w fun e w' => e = .returned (.bool true) ∧ Below w.heap.size w w' := by
  obtain ⟨i0, hi0, hz0, hz1, hz2⟩ := info_parts info_int
  have HA := Lib.hid (fun w => galive_true w)
  have H1 := Lib.hid h1
  have H2 := Lib.hid h2
  have HW := Lib.hid hw
  have HSZ := Lib.hid hsz
  have HL1 := Lib.hid h1.1
  clear h1 h2 hw hsz
  go_enter Tryz.func4, Tryz.ntmps4
  go_wp2_with fail
  refine HLG.out.mono ?_
  rintro e w1 ⟨rfl, rfl⟩
  go_wp2
  go_loopw [5, 6] (fun tv iv wr => ∃ (k : Nat) (fs : List Int), k ≤ n1 ∧ iv = .int .i64 k ∧ Hid (Looked ls fs k) ∧ Hid (fs.length = k) ∧ Hid (wr.ownsRow w1.heap.size 3 1 tv k (rowOf ncells fs)) ∧ Hid (Below w1.heap.size w1 wr)) (fun _ iv _ => n1 - (intOf iv).toNat)
  case atStart => exact ⟨0, [], Nat.zero_le _, rfl, Lib.hid ⟨rfl, List.nodup_nil, fun _ h => by cases h⟩, Lib.hid rfl, Lib.hid (World.ownsRow_nil _ _ _ _), Lib.hid (Below.refl _ _)⟩
  case round =>
    obtain ⟨k, fs, hk, rfl, hlk, hfl, ho, hb⟩ := hrel
    obtain ⟨fp, fc, rfl⟩ := owns_slice ho.out
    have hbs := hb.out.size
    by_cases hlt : k < n1
    · obtain ⟨b, o, e, hbl, hc⟩ := (H1.out.below hb.out).2 (by omega)
      have hcell := hc k hlt
      subst e
      clear hc
      have HNX := Lib.hid (hlk.out.next (by rw [HL1.out]; exact hlt))
      generalize HL.el ls k = x at *
      by_cases hx1 : x < 2
      · clear HNX
        go_wp2_with fail
        refine (HA.out _).mono ?_
        rintro e w3 ⟨rfl, hb3⟩
        have HB := Lib.hid (hb.out.trans (hb3.mono hbs))
        clear hb3
        go_wp2
        go_ret
        exact ⟨rfl, HB.out⟩
      by_cases hx2 : 12 ≤ x
      · clear HNX
        go_wp2_with fail
        refine (HA.out _).mono ?_
        rintro e w3 ⟨rfl, hb3⟩
        have HB := Lib.hid (hb.out.trans (hb3.mono hbs))
        clear hb3
        go_wp2
        go_ret
        exact ⟨rfl, HB.out⟩
      have HIN := Lib.hid (in_any fp k fc _ fs x wr (RdI.of_own ho.out hfl.out) (by omega))
      by_cases hx3 : x ∈ fs
      · rw [decide_eq_true hx3] at HIN
        clear HNX hx3
        go_wp2_with fail
        refine HIN.out.mono ?_
        rintro e w2 ⟨rfl, rfl⟩
        go_wp2_with fail
        refine (HA.out _).mono ?_
        rintro e w3 ⟨rfl, hb3⟩
        have HB := Lib.hid (hb.out.trans (hb3.mono hbs))
        clear hb3
        go_wp2
        go_ret
        exact ⟨rfl, HB.out⟩
      · rw [decide_eq_false hx3] at HIN
        have HNX2 := Lib.hid (HNX.out hx1 hx2 hx3)
        clear HNX hx3
        go_wp2_with fail
        refine HIN.out.mono ?_
        rintro e w2 ⟨rfl, rfl⟩
        go_wp2_with (at_builtin; refine wpList_append_lies _ rfl _ _ 38 rfl w1.heap.size 3 i0 _ 1 8 Tryz.underlying38 hi0 hz0 hz1 hz2 rfl (by omega) _ k (rowOf ncells fs) rfl ?own ⟨w2.heap.size, 0, none⟩ 1 1 [.int .i64 x] rfl rfl ?cells ?one (by omega) ?len ?bytes ?base (w2.heap.size + 1) (by simp) ?_; (case own => exact ho.out.alloc _); (case cells => exact new_cells w2 _ _); (case one => simp [Value.oneCell']); (case len => unfold maxLen; omega); (case bytes => omega); (case base => simp; omega); intro g cap w3 hown hgr hat hg; (have HO3 : Hid (w3.ownsRow w1.heap.size 3 1 (.slice (some ⟨g, 0, none⟩) (k + 1) cap) (k + 1) (rowOf ncells (fs ++ [x]))) := Lib.hid (by rw [rowOf_append, rowOf_one]; exact hown)); (have HB3 : Hid (Below w1.heap.size w1 w3) := Lib.hid ((hb.out.alloc hb.out.size _).grown hgr (by simp; omega) (fun k hk => (ho.out.lt k hk).1))); (have HFL : Hid ((fs ++ [x]).length = k + 1) := Lib.hid (by simp [hfl.out])); clear hown hgr hat hg)
        go_roundw
        case rel => exact ⟨k + 1, fs ++ [x], by omega, by go_num, HNX2, HFL, HO3, HB3⟩
        case measure => simp [intOf]; omega
    · obtain rfl : k = n1 := by omega
      obtain ⟨_, hfn, hfb⟩ := hlk.out
      have HFN := Lib.hid hfn
      have HFB := Lib.hid hfb
      have HBS := Lib.hid (base_some 40 12 fp k fc fs wr (RdI.of_own ho.out hfl.out) (by omega) (by omega) (by omega) (by omega))
      have HBR := Lib.hid hb.out
      clear ho hb hlk hfn hfb
      go_wp2_with fail
      refine HBS.out.mono ?_
      rintro e w2 ⟨db, rb, fb, rf, l, Fd, Ff, rfl, hD, hF, hp, hap, hdb, hfb, hb2⟩
      have hNW := pg_new (base := w1.heap.size) 12 1 hD hF hap (fun k hk => Nat.le_trans hbs (Nat.le_trans hdb (hD.ge k hk))) (fun k hk => Nat.le_trans hbs (Nat.le_trans hfb (hF.ge k hk))) (Nat.le_trans hbs hb2.size) (by omega) (by simp) (by omega) (fun x hx => HFB.out x (hp.mem_iff.1 (by simpa [pagesOf] using hx))) (by rw [hp.length_eq, hfl.out]; simp; omega)
      have HNW := Lib.hid hNW
      have HPM := Lib.hid hp
      have HB2 := Lib.hid (HBR.out.trans (hb2.mono hbs))
      clear hD hF hp hap hdb hfb hb2 hNW HBS HBR
      go_wp2_with fail
      refine HNW.out.mono ?_
      rintro e w3 ⟨pb, bm, bd, bw, sb, sbase, U, rfl, hP, hU, hb3, hpb⟩
      have HB3 : Hid (Below w1.heap.size w1 w3) := Lib.hid (HB2.out.trans (hb3.mono HB2.out.size))
      have hAL : Calls Tryz.prog 16 #[.pointer (some ⟨fb, 0, none⟩)] w3 fun e w' => ∃ u c, e = .returned (.slice u k c) ∧ w'.ownsRow w3.heap.size 3 1 (.slice u k c) k (rowOf ncells (CL.srt fs)) ∧ Below w3.heap.size w3 w' := by
        obtain ⟨F, hF, _⟩ := hP.fre
        have hF : Fe fb fb l [] 0 (.map []) F w3 := hF
        refine (fe_all hF (by rw [HPM.out.length_eq, hfl.out]; simp; omega)).mono ?_
        rintro e w' ⟨u, rfl, ho, hb⟩
        have hn : l ++ pagesOf [] = l := by simp [pagesOf]
        rw [hn, CL.srt_of_perm HPM.out, HPM.out.length_eq, hfl.out, List.length_nil, Nat.add_zero] at ho
        obtain ⟨q, c, rfl⟩ := owns_slice ho
        exact ⟨q, c, rfl, ho, hb⟩
      have HAL := Lib.hid hAL
      have HP := Lib.hid hP
      clear hP hU hb3 hpb hAL HNW HB2
      go_wp2_with fail
      refine HAL.out.mono ?_
      rintro e w4 ⟨wp, wc, rfl, ho4, hb4⟩
      have HP4 := Lib.hid (HP.out.below hb4)
      have HGE : Hid (∀ k, U k → w1.heap.size ≤ k) := Lib.hid HP.out.ge
      have HOF : Hid (∀ g, (Value.slice wp k wc).ownBlock = some g → ¬ U g) := Lib.hid (fun g hg hU => by
        have e1 := (ho4.lt g hg).1
        have e2 := HP.out.lt g hU
        omega)
      have HO4 := Lib.hid ho4
      have HB4 : Hid (Below w1.heap.size w1 w4) := Lib.hid (HB3.out.trans (hb4.mono HB3.out.size))
      have HST : Hid (UndI pb w1.heap.size db fb fs 0 U w4 w4) := Lib.hid ⟨_, U, UndJ.new HPM.out, HP4.out, rfl, rfl, Step.refl _ _⟩
      have HBW : Hid (∀ i W, UndI pb w1.heap.size db fb fs i U w4 W → Below w1.heap.size w1 W) := Lib.hid (fun i W h => by
        obtain ⟨s, U', _, _, _, _, hS⟩ := h
        exact HB4.out.trans (hS.1.below HB4.out.size HGE.out))
      clear ho4 hb4 HAL HP HP4 HB3
      go_wp2
      go_loopw [15] (fun iv wr => ∃ i : Nat, i ≤ n2 ∧ iv = .int .i64 i ∧ Hid (UndI pb w1.heap.size db fb fs i U w4 wr)) (fun iv _ => n2 - (intOf iv).toNat)
      case atStart => exact ⟨0, Nat.zero_le _, rfl, HST⟩
      case round =>
        clear HST
        obtain ⟨i, hi, rfl, hI⟩ := hrel
        by_cases hi2 : i < n2
        · obtain ⟨b, o, e, hbl, x0, x1, x2, x3, x4⟩ := op_cells (H2.out.below (HBW.out i _ hI.out)) i hi2
          subst e
          have HMK := Lib.hid (und_make (opAt ops i).pk (opAt ops i).pn (opAt ops i).pb hI.out HFB.out HFN.out (by have := HSZ.out i hi2; omega) (by omega))
          have HDR := Lib.hid (und_drop (opAt ops i).n hI.out (HW.out i hi2) (by rw [hfl.out]; omega) (by omega))
          have HMO := Lib.hid hI.out.more
          generalize (opAt ops i).k = kind at *
          generalize (opAt ops i).n = nn at *
          generalize (opAt ops i).pk = qk at *
          generalize (opAt ops i).pn = qn at *
          generalize (opAt ops i).pb = qb at *
          clear hI
          have hcase : kind = 1 ∨ (kind ≠ 1 ∧ kind = 3) ∨ (kind ≠ 1 ∧ kind ≠ 3) := by omega
          rcases hcase with h1 | ⟨h1, h3⟩ | ⟨h1, h3⟩
          · have hb1 : (kind == 1) = true := by rw [beq_iff_eq]; exact h1
            clear h1 HDR HMO
            go_wp2_with fail
            refine HMK.out.mono ?_
            rintro e w5 ⟨⟨rx, ry, rfl⟩, hI5⟩
            have HI5 := Lib.hid hI5
            clear hI5 HMK x0 x1 x2 x3 x4
            go_wp2
            go_roundw
            case rel => exact ⟨i + 1, by omega, by go_num, HI5⟩
            case measure => simp [intOf]; omega
          · have hb1 : (kind == 1) = false := by rw [beq_eq_false_iff_ne]; exact h1
            have hb3 : (kind == 3) = true := by rw [beq_iff_eq]; exact h3
            clear h1 h3 HMK HMO
            go_wp2_with fail
            refine HDR.out.mono ?_
            rintro e w5 ⟨⟨ry, rfl⟩, hI5⟩
            have HI5 := Lib.hid hI5
            clear hI5 HDR x0 x1 x2 x3 x4
            go_wp2
            go_roundw
            case rel => exact ⟨i + 1, by omega, by go_num, HI5⟩
            case measure => simp [intOf]; omega
          · have hb1 : (kind == 1) = false := by rw [beq_eq_false_iff_ne]; exact h1
            have hb3 : (kind == 3) = false := by rw [beq_eq_false_iff_ne]; exact h3
            clear h1 h3 HMK HDR
            go_wp2
            go_roundw
            case rel => exact ⟨i + 1, by omega, by go_num, HMO⟩
            case measure => simp [intOf]; omega
        · obtain rfl : i = n2 := by omega
          have HUN := Lib.hid (und_undo hI.out (by rw [hfl.out]; omega) (by omega))
          clear hI
          go_wp2_with fail
          refine HUN.out.mono ?_
          rintro e w5 ⟨rfl, hD5⟩
          have HD5 := Lib.hid hD5
          clear hD5 HUN
          go_wp2_with fail
          refine (HA.out _).mono ?_
          rintro e w6 ⟨rfl, hb6⟩
          have HD6 := Lib.hid (HD5.out.below hb6)
          clear hb6 HD5
          go_wp2_with fail
          refine (done_pages HD6.out).mono ?_
          rintro e w7 ⟨rfl, rfl⟩
          have HAL := Lib.hid (done_all HD6.out (by rw [hfl.out]; omega))
          rw [hfl.out] at HAL
          go_wp2_with fail
          refine HAL.out.mono ?_
          rintro e w8 ⟨ap, ac, rfl, hra, hb8⟩
          have HD8 := Lib.hid (HD6.out.below hb8)
          have HRA := Lib.hid hra
          have HRW : Hid (RdI w8 w8.heap.size wp k (CL.srt fs)) := Lib.hid (by
            obtain ⟨s, U', hP, h⟩ := HD8.out
            have hS := h.2.2.2.2.2.2.2.2.2.2
            exact RdI.of_own (hS.1.owns HO4.out HOF.out) (by rw [CL.srt_length, hfl.out]))
          have HSM := Lib.hid (same_ints ap wp k ac k wc _ _ w8 _ _ HRA.out HRW.out (by omega) (by omega))
          clear hra hb8 HAL HD6
          go_wp2_with fail
          refine HSM.out.mono ?_
          rintro e w9 ⟨bo, nd, rfl, hbo, hwd⟩
          obtain rfl : bo = true := hbo.2 rfl
          have HD9 := Lib.hid (HD8.out.below (show Below w8.heap.size w8 w9 by rw [hwd]; exact ((Fr.refl (fun _ => False) _).drewN _).below (Nat.le_refl _) (fun _ h => h.elim)))
          clear hbo hwd HSM HD8 HRA HRW
          go_wp2_with fail
          refine (done_made HD9.out).mono ?_
          rintro e wa ⟨ua, ca, rfl, hba⟩
          have HDA := Lib.hid (HD9.out.below hba)
          clear hba HD9
          go_wp2_with fail
          refine (done_dropped HDA.out).mono ?_
          rintro e wb ⟨ub, cb, rfl, hbb⟩
          have HDB := Lib.hid (HDA.out.below hbb)
          clear hbb HDA
          go_wp2_with fail
          refine (done_spare HDB.out).mono ?_
          rintro e wc' ⟨uc, cc, rfl, hbc⟩
          have HDC := Lib.hid (HDB.out.below hbc)
          clear hbc HDB
          go_wp2_with fail
          refine (done_unsynced HDC.out).mono ?_
          rintro e wd ⟨rfl, rfl⟩
          have HBE : Hid (Below w1.heap.size w1 wd) := Lib.hid (by
            obtain ⟨s, U', hP, h⟩ := HDC.out
            have hS := h.2.2.2.2.2.2.2.2.2.2
            exact HB4.out.trans (hS.1.below HB4.out.size HGE.out))
          clear HDC
          go_wp2
          go_ret
          exact ⟨rfl, HBE.out⟩

set_option maxHeartbeats 2000000 in
set_option maxRecDepth 100000 in
theorem undoes_walk (p1 p2 : Option Addr) (n1 c1 n2 c2 : Nat) (ls : List Int) (ops : List OpV) (w : World) (h1 : RdI w w.heap.size p1 n1 ls) (h2 : RdG ocells w w.heap.size p2 n2 ops) (hw : ∀ z ∈ ops, opok z) :
    Calls Tryz.prog 4 #[.slice p1 n1 c1, .slice p2 n2 c2] w fun e w' => e = .returned (.bool true) ∧ Below w.heap.size w w' := by
  have HA := Lib.hid (fun w => galive_true w)
  have hop : ∀ i, i < n2 → opok (opAt ops i) := fun i hi => by
    have hl : i < ops.length := by rw [h2.1]; exact hi
    have e : opAt ops i = ops[i] := by
      unfold opAt
      rw [List.getD_eq_getElem?_getD, List.getElem?_eq_getElem hl]
      rfl
    rw [e]
    exact hw _ (List.getElem_mem hl)
  have HLT := light_any p2 n2 c2 _ ops w h2 (fun i hi => by have := (hop i hi).2.2.2.2; unfold maxLen at this; omega)
  by_cases hc : n2 ≤ 150 ∧ ∀ i, i < n2 → (opAt ops i).pb.size ≤ 300
  · have HLG : Hid (Calls Tryz.prog 14 #[.slice p2 n2 c2] w fun e w' => e = .returned (.bool true) ∧ w' = w) := Lib.hid (HLT.mono fun e w' ⟨b, he, hw', hb⟩ => by
      have e1 : b = true := hb.2 hc
      rw [e1] at he
      exact ⟨he, hw'⟩)
    by_cases hn : n1 ≤ 20
    · exact undoes_core p1 p2 n1 c1 n2 c2 ls ops w h1 h2 (fun i hi => (hop i hi).2.1) hn hc.1 hc.2 HLG
    · have hg : 20 < n1 := by omega
      clear h1 h2 hw hop HLT hc hn
      go_enter Tryz.func4, Tryz.ntmps4
      go_wp2_with fail
      refine HLG.out.mono ?_
      rintro e w1 ⟨rfl, rfl⟩
      go_wp2_with fail
      refine (HA.out _).mono ?_
      rintro e w3 ⟨rfl, hb3⟩
      have HB := Lib.hid hb3
      clear hb3
      go_wp2
      go_ret
      exact ⟨rfl, HB.out⟩
  · have HLG : Hid (Calls Tryz.prog 14 #[.slice p2 n2 c2] w fun e w' => e = .returned (.bool false) ∧ w' = w) := Lib.hid (HLT.mono fun e w' ⟨b, he, hw', hb⟩ => by
      have e1 : b = false := by
        cases b
        · rfl
        · exact absurd (hb.1 rfl) hc
      rw [e1] at he
      exact ⟨he, hw'⟩)
    clear h1 h2 hw hop HLT hc
    go_enter Tryz.func4, Tryz.ntmps4
    go_wp2_with fail
    refine HLG.out.mono ?_
    rintro e w1 ⟨rfl, rfl⟩
    go_wp2_with fail
    refine (HA.out _).mono ?_
    rintro e w3 ⟨rfl, hb3⟩
    have HB := Lib.hid hb3
    clear hb3
    go_wp2
    go_ret
    exact ⟨rfl, HB.out⟩
end Go.Proofs.YtoagbcbkaloacaaGreatDoor
