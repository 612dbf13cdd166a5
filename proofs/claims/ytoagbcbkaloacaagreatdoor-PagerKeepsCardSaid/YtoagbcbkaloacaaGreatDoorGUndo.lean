/- pager: Undo. -/
import Derived.Test.YtoagbcbkaloacaaGreatDoorGAny
namespace Go.Proofs.YtoagbcbkaloacaaGreatDoor
open Go.RowKit Go.Maps Go.Conc

section
variable {pb base : Nat} {s : PgS} {U : Nat → Prop} {w w' : World}

/-- clear, of a pager whose pages are all taken as they are. -/
theorem pg_cleared (h : Pg pb base s U w) (hbp : s.pages = s.base) : Calls Tryz.prog 41 #[.pointer (some ⟨pb, 0, none⟩)] w fun e w' => e = .returned (.tuple #[]) ∧ ∃ bm bd bw sb sbase U', Pg pb base (pgNew s.db s.dbase s.most s.sy s.nw s.wr s.fb s.fbase s.l s.fw s.base s.txn bm bd bw sb sbase) U' w' ∧ Step U U' w w' := by
  obtain ⟨Fs, hI, rfl⟩ := h
  obtain ⟨hc, hF0⟩ := hI.part 0
  have hD : Dv s.db s.dbase s.most true false 0 s.sy s.nw s.wr (Fs 1) w := hI.part 1
  have hF : Fe s.fb s.fbase s.l s.fw 0 (.map []) (Fs 2) w := hI.part 2
  have hpb : pb < w.heap.size := cell_lt hc.c0
  have h0 : Fs 0 pb := by rw [hF0]
  have hc3 := hc.c3
  rw [hbp] at hc3
  refine (pg_clear pb w _ _ _ _ hc.c5 hc.c6 hc.c7 hc.c8 hc.fz).mono ?_
  rintro e w' ⟨he, bm, bd, bw, sb, sbase, F, hC⟩
  obtain ⟨U', hP, hU⟩ := new_fin (base := base) hD hF (fun k h1 h2 => hI.apart 1 2 k (by omega) h1 h2) (hI.ge 1) (hI.ge 2) hpb (hI.ge 0 pb h0) (fun h1 => hI.apart 0 1 pb (by omega) h0 h1) (fun h1 => hI.apart 0 2 pb (by omega) h0 h1) hc.c0 hc.c1 hc.c2 hc3 hc.c4 hc.fz hC
  refine ⟨he, bm, bd, bw, sb, sbase, U', hP, hC.fr.mono (fun k _ hk => ⟨0, by rw [hF0]; exact hk⟩), fun k hk => ?_⟩
  rcases hU k hk with h1 | h1 | h1 | h1
  · exact .inl ⟨1, h1⟩
  · exact .inl ⟨2, h1⟩
  · exact .inl ⟨0, by rw [hF0]; exact h1⟩
  · exact .inr h1

/-- What is given back of the first k pages that were made. -/
def undone (s : PgS) (ks : List Int) : List Int := ks.filter (fun x => decide (x < (s.base : Int)))
theorem undone_next (s : PgS) (ks : List Int) (k : Nat) (hk : k < ks.length) : undone s (ks.take (k + 1)) = undone s (ks.take k) ++ (if HL.el ks k < (s.base : Int) then [HL.el ks k] else []) := by
  have e : ks.take (k + 1) = ks.take k ++ [HL.el ks k] := by
    rw [List.take_succ_eq_append_getElem hk]
    have e9 := HL.el_eq ks k hk
    rw [List.getElem?_eq_getElem hk] at e9
    injection e9 with e9
    rw [e9]
  rw [e]
  unfold undone
  rw [List.filter_append]
  by_cases h : HL.el ks k < (s.base : Int)
  · rw [if_pos h]
    simp [h]
  · rw [if_neg h]
    simp [h]
theorem undone_len (s : PgS) (ks : List Int) : (undone s ks).length ≤ ks.length := List.length_filter_le _ _

theorem pg_fback (id : Int) (h : Pg pb base s U w) (hl : s.l.length < 900000) : Calls Tryz.prog 25 #[.pointer (some ⟨s.fb, 0, none⟩), .slice (some ⟨w.heap.size, 0, none⟩) 1 1] (w.alloc (.cells #[.int .i64 id] 3)) fun e w' => e = .returned (.tuple #[]) ∧ ∃ l' U', l'.Perm (s.l ++ [id]) ∧ Pg pb base { s with l := l' } U' w' ∧ Step U U' w w' := by
  obtain ⟨Fs, hI, rfl⟩ := h
  have hal : Fr (fun _ => False) w (w.alloc (.cells #[.int .i64 id] 3)) := (Fr.refl _ w).alloc _
  have hF : Fe s.fb s.fbase s.l s.fw 0 (.map []) (Fs 2) w := hI.part 2
  have hF1 : Fe s.fb s.fbase s.l s.fw 0 (.map []) (Fs 2) (w.alloc (.cells #[.int .i64 id] 3)) := hF.keep hal (fun _ _ h => h)
  refine (fe_back (some ⟨w.heap.size, 0, none⟩) 1 1 [id] hF1 (rd_new w [id] 3) (fun b o e _ hU => by
    injection e with e
    injection e with e _ _
    subst e
    exact Nat.lt_irrefl _ (hF.lt _ hU)) (by omega)).mono ?_
  rintro e w' ⟨he, l', F', hI', hp, hS⟩
  obtain ⟨U', h1, h2⟩ := hI.fre hI' (Step.trans ⟨hal.mono (fun _ _ h => h.elim), fun k h => .inl h⟩ hS)
  exact ⟨he, l', U', hp, h1, h2⟩

theorem step_pages (h : Pg pb base s U w) (n : Nat) : ∃ U', Pg pb base { s with pages := n } U' (w.setCell ⟨pb, 3, none⟩ (.int .i64 n)) ∧ Step U U' w (w.setCell ⟨pb, 3, none⟩ (.int .i64 n)) := step_own h.cells.c3 h n

set_option maxHeartbeats 4000000 in
set_option maxRecDepth 100000 in
theorem pg_undo (h : Pg pb base s U w) (hn : s.nm ≤ 1000000) (hl : s.A.length ≤ 1000) (hl2 : s.l.length ≤ 1000) :
    Calls Tryz.prog 17 #[.pointer (some ⟨pb, 0, none⟩)] w fun e w' => e = .returned (.tuple #[]) ∧ ∃ l' bm bd bw sb sbase U', l'.Perm (s.l ++ undone s (CL.srt (s.A.map (·.1)))) ∧ Pg pb base (pgNew s.db s.dbase s.most s.sy s.nw s.wr s.fb s.fbase l' s.fw s.base s.txn bm bd bw sb sbase) U' w' ∧ Step U U' w w' := by
  have HNO := Lib.hid (pg_none h.cells)
  have HMD := Lib.hid (pg_made h hn (by omega))
  have HP := Lib.hid h
  have HKL : Hid ((CL.srt (s.A.map (·.1))).length = s.A.length) := Lib.hid (by rw [CL.srt_length, List.length_map])
  clear h
  go_enter Tryz.func17, Tryz.ntmps17
  go_wp2_with fail
  refine HNO.out.mono ?_
  rintro e w1 ⟨rfl, hw1⟩
  subst hw1
  go_wp2_with fail
  refine HMD.out.mono ?_
  rintro e w2 ⟨u, rfl, ho, hb⟩
  obtain ⟨up, uc, rfl⟩ := owns_slice ho
  have hr := RdI.of_own ho HKL.out
  generalize hks : CL.srt (s.A.map (·.1)) = ks at *
  have HKS := Lib.hid hks
  have HR : Hid (∀ W, Below w2.heap.size w2 W → RdI W w2.heap.size up s.A.length ks) := Lib.hid (fun W hW => hr.below hW)
  have HUB : Hid (∀ b o, up = some ⟨b, o, none⟩ → 0 < s.A.length → ¬ U b) := Lib.hid (fun b o e h0 hU => by
    obtain ⟨g, cap, hv, hg, _, _⟩ := owns_len ho h0
    injection hv with hv _ _
    rw [hv] at e
    injection e with e
    injection e with e _ _
    have := HP.out.lt b hU
    omega)
  have HR0 := Lib.hid hr
  have HST : Hid (∃ l' U', l'.Perm (s.l ++ undone s (ks.take 0)) ∧ Pg pb base { s with l := l' } U' w2 ∧ Step U U' w2 w2) := Lib.hid ⟨s.l, U, by simp [undone], HP.out.below hb, Step.refl _ _⟩
  have HS12 : Hid (Step U U w1 w2) := Lib.hid (Step.still hb)
  clear ho hb hr hks HMD
  go_wp2
  go_loopw [3, 9] (fun _ iv wr => ∃ (k : Nat) (l' : List Int) (U' : Nat → Prop), k ≤ s.A.length ∧ iv = .int .i64 k ∧ Hid (l'.Perm (s.l ++ undone s (ks.take k))) ∧ Hid (Pg pb base { s with l := l' } U' wr) ∧ Hid (Step U U' w2 wr)) (fun _ iv _ => s.A.length - (intOf iv).toNat)
  case atStart =>
    obtain ⟨l', U', h1, h2, h3⟩ := HST.out
    exact ⟨0, l', U', Nat.zero_le _, rfl, Lib.hid h1, Lib.hid h2, Lib.hid h3⟩
  case round =>
    clear HST
    obtain ⟨k, l', U', hk, rfl, hp, hP, hS⟩ := hrel
    by_cases hlt : k < s.A.length
    · obtain ⟨b, o, e, hbl, hc⟩ := HR0.out.2 (by omega)
      have hcell := (hS.out.1.cell (p := ⟨b, o + k, none⟩) hbl (HUB.out b o e (by omega))).trans (hc k hlt)
      have c1 := hP.out.cells.c1
      have c2 := hP.out.cells.c2
      have hlen : l'.length ≤ 2000 := by
        have e1 := hp.out.length_eq
        have e2 := undone_len s (ks.take k)
        rw [List.length_append] at e1
        rw [List.length_take] at e2
        omega
      have HUN := Lib.hid (undone_next s ks k (by rw [HKL.out]; exact hlt))
      have HFB := Lib.hid (pg_fback (HL.el ks k) hP.out (by show l'.length < 900000; omega))
      subst e
      clear hc
      by_cases hba : HL.el ks k < (s.base : Int)
      · rw [if_pos hba] at HUN
        generalize HL.el ks k = x at *
        have HHP := hp
        have HHS := hS
        clear hp hP hS hlen
        go_wp2_with fail
        refine HFB.out.mono ?_
        rintro e w4 ⟨rfl, l4, U4, hp4, hP4, hS4⟩
        have HP4 : Hid (Pg pb base { s with l := l4 } U4 w4) := Lib.hid hP4
        have HS4 := Lib.hid (HHS.out.trans hS4)
        have HPE : Hid (l4.Perm (s.l ++ undone s (ks.take (k + 1)))) := Lib.hid (by
          rw [HUN.out, ← List.append_assoc]
          exact hp4.trans (HHP.out.append_right _))
        clear hp4 hP4 hS4 HFB HHP HHS HUN
        go_wp2
        go_roundw
        case rel => exact ⟨k + 1, l4, U4, by omega, by go_num, HPE, HP4, HS4⟩
        case measure => simp [intOf]; omega
      · rw [if_neg hba, List.append_nil] at HUN
        have HPE : Hid (l'.Perm (s.l ++ undone s (ks.take (k + 1)))) := Lib.hid (by rw [HUN.out]; exact hp.out)
        have HPP := hP
        have HHS := hS
        generalize HL.el ks k = x at *
        clear hp hP hS hlen HFB HUN
        go_wp2
        go_roundw
        case rel => exact ⟨k + 1, l', U', by omega, by go_num, HPE, HPP, HHS⟩
        case measure => simp [intOf]; omega
    · obtain rfl : k = s.A.length := by omega
      have hp' : l'.Perm (s.l ++ undone s ks) := by
        have e := hp.out
        rwa [List.take_of_length_le (by rw [HKL.out]; exact Nat.le_refl _)] at e
      have HPE := Lib.hid hp'
      have c2 := hP.out.cells.c2
      have c3 := hP.out.cells.c3
      have f3 := hP.out.cells.fz 3 (by omega)
      obtain ⟨U5, hP5, hS5⟩ := step_pages hP.out s.base
      have HCL := Lib.hid (pg_cleared hP5 rfl)
      have HS5 := Lib.hid ((HS12.out.trans hS.out).trans hS5)
      clear hp hP hS hp' hP5 hS5 HR HR0 HUB
      go_wp2_with fail
      refine HCL.out.mono ?_
      rintro e w6 ⟨rfl, bm, bd, bw, sb, sbase, U6, hP6, hS6⟩
      have HE : Hid (∃ l' bm bd bw sb sbase U', l'.Perm (s.l ++ undone s ks) ∧ Pg pb base (pgNew s.db s.dbase s.most s.sy s.nw s.wr s.fb s.fbase l' s.fw s.base s.txn bm bd bw sb sbase) U' w6 ∧ Step U U' w1 w6) := Lib.hid ⟨l', bm, bd, bw, sb, sbase, U6, HPE.out, hP6, HS5.out.trans hS6⟩
      clear hP6 hS6
      go_wp2
      go_end0
      exact ⟨rfl, by rw [HKS.out]; exact HE.out⟩
end
end Go.Proofs.YtoagbcbkaloacaaGreatDoor
