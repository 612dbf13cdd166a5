/- pager: Flush. -/
import Derived.Test.YtoagbcbkaloacaaGreatDoorGUndo
namespace Go.Proofs.YtoagbcbkaloacaaGreatDoor
open Go.RowKit Go.Maps Go.Conc

/-- All that was made can be sealed. -/
def SealA (A : List (Int × Value)) : Prop := ∀ x ∈ A, ∃ (j k n : Nat) (b : ByteArray), x = ((j : Int), pgv (k : Int) (n : Int) b) ∧ j < 2 ^ 32 ∧ n < 2 ^ 32 ∧ 1 ≤ k ∧ k ≤ 255 ∧ b.size ≤ 240

section
variable {pb base : Nat} {s : PgS} {U : Nat → Prop} {w w' : World}

set_option maxRecDepth 100000 in
theorem made_get (h : Pg pb base s U w) (id : Int) (hid : (Lit.int .i64 id).wf = true) (hm : id ∈ s.A.map (·.1)) : ∃ v, (id, v) ∈ s.A ∧ (Instr.lookup 60 (.map (some s.bm)) (.int .i64 id) false).run Tryz.prog w = .ok v w := by
  obtain ⟨D, ho, hR⟩ := h.made
  obtain ⟨v, ps, hrun, hv⟩ := ho.lookup keyedI Tryz.underlying60 (show (zeroValue 23).run Tryz.prog w = .ok (.agg #[.int .i64 0, .int .i64 0, .string ByteArray.empty]) w from rfl) (show heldR (.agg #[.int .i64 0, .int .i64 0, .string ByteArray.empty]) = some (.held (.agg #[.int .i64 0, .int .i64 0, .string ByteArray.empty]), []) from rfl) (key_of hid)
  have hv2 : DataW.held v = D.atKey (.int .i64 id) (.held (.agg #[.int .i64 0, .int .i64 0, .string ByteArray.empty])) := by
    unfold heldR at hv
    injection hv with hv
    injection hv
  obtain ⟨q, hq, rfl⟩ := List.mem_map.1 hm
  rw [hR.val q.1 q.2 _ hq] at hv2
  injection hv2 with hv2
  subst hv2
  exact ⟨q.2, hq, hrun⟩

theorem pg_dwrite (j : Nat) (str : ByteArray) (h : Pg pb base s U w) (hj : j < s.nw.length) (hs : str.size = 256) (hw : s.wr.length < 1000) : Calls Tryz.prog 23 #[.pointer (some ⟨s.db, 0, none⟩), .int .i64 (j : Int), .string str] w fun e w' => e = .returned (.int .i64 0) ∧ ∃ U', Pg pb base { s with nw := s.nw.set j str, wr := s.wr ++ [((j : Int), str)] } U' w' ∧ Step U U' w w' := by
  obtain ⟨Fs, hI, rfl⟩ := h
  have hD : Dv s.db s.dbase s.most true false 0 s.sy s.nw s.wr (Fs 1) w := hI.part 1
  refine (dv_write j str hD hj hs hw (by omega)).mono ?_
  rintro e w' ⟨he, F', hD', hS⟩
  have e1 : opFl false 0 = false := by simp [opFl]
  have e2 : opLf false 0 = 0 := by simp [opLf]
  rw [e1, e2] at hD'
  rw [e1] at he
  obtain ⟨U', h1, h2⟩ := hI.dev hD' hS
  exact ⟨he, U', h1, h2⟩

theorem pg_fgive (t : Int) (p : Option Addr) (n c : Nat) (zs : List Int) (h : Pg pb base s U w) (hz : RdI w w.heap.size p n zs) (hS : ∀ b o, p = some ⟨b, o, none⟩ → 0 < n → ¬ U b) (hn : s.fw.length + n < 1000000) :
    Calls Tryz.prog 62 #[.pointer (some ⟨s.fb, 0, none⟩), .int .i64 t, .slice p n c] w fun e w' => e = .returned (.tuple #[]) ∧ ∃ U', Pg pb base { s with fw := s.fw ++ zs.map (fun x => (t, x)) } U' w' ∧ Step U U' w w' := by
  obtain ⟨Fs, hI, rfl⟩ := h
  have hF : Fe s.fb s.fbase s.l s.fw 0 (.map []) (Fs 2) w := hI.part 2
  refine (fe_give t p n c zs hF hz (fun b o e h0 hU => hS b o e h0 ⟨2, hU⟩) hn).mono ?_
  rintro e w' ⟨he, F', hF', hS'⟩
  obtain ⟨U', h1, h2⟩ := hI.fre hF' hS'
  exact ⟨he, U', h1, h2⟩
theorem pg_fbacks (p : Option Addr) (n c : Nat) (zs : List Int) (h : Pg pb base s U w) (hz : RdI w w.heap.size p n zs) (hS : ∀ b o, p = some ⟨b, o, none⟩ → 0 < n → ¬ U b) (hn : s.l.length + n < 1000000) :
    Calls Tryz.prog 25 #[.pointer (some ⟨s.fb, 0, none⟩), .slice p n c] w fun e w' => e = .returned (.tuple #[]) ∧ ∃ l' U', Pg pb base { s with l := l' } U' w' ∧ Step U U' w w' := by
  obtain ⟨Fs, hI, rfl⟩ := h
  have hF : Fe s.fb s.fbase s.l s.fw 0 (.map []) (Fs 2) w := hI.part 2
  refine (fe_back p n c zs hF hz (fun b o e h0 hU => hS b o e h0 ⟨2, hU⟩) hn).mono ?_
  rintro e w' ⟨he, l', F', hF', _, hS'⟩
  obtain ⟨U', h1, h2⟩ := hI.fre hF' hS'
  exact ⟨he, l', U', h1, h2⟩
theorem pg_slist (h : Pg pb base s U w) : Calls Tryz.prog 49 #[.pointer (some ⟨s.sb, 0, none⟩)] w fun e w' => ∃ u, e = .returned u ∧ w'.ownsRow w.heap.size 3 1 u s.sp.length (rowOf ncells (CL.srt s.sp)) ∧ Below w.heap.size w w' := by
  obtain ⟨v, hP⟩ := h.spa
  exact pile_list s.sb s.sbase v s.sp w hP
theorem step_base (h : Pg pb base s U w) (n : Nat) : ∃ U', Pg pb base { s with base := n } U' (w.setCell ⟨pb, 2, none⟩ (.int .i64 n)) ∧ Step U U' w (w.setCell ⟨pb, 2, none⟩ (.int .i64 n)) := by
  obtain ⟨Fs, h, rfl⟩ := h
  obtain ⟨h0, hF⟩ := h.part 0
  have hfr : Fr (Fs 0) w (w.setCell ⟨pb, 2, none⟩ (.int .i64 n)) := by
    rw [hF]
    exact (Fr.refl (fun k => k = pb) w).setCell (p := ⟨pb, 2, none⟩) (fun _ => rfl) _
  refine PgI.turn 0 h (fun j hj F W h => ?_) ⟨⟨(set_co _ _ _ _ _ (by omega)).trans h0.c0, (set_co _ _ _ _ _ (by omega)).trans h0.c1, cell_set_same _ _ _ _ h0.c2, (set_co _ _ _ _ _ (by omega)).trans h0.c3, (set_co _ _ _ _ _ (by omega)).trans h0.c4, (set_co _ _ _ _ _ (by omega)).trans h0.c5, (set_co _ _ _ _ _ (by omega)).trans h0.c6, (set_co _ _ _ _ _ (by omega)).trans h0.c7, (set_co _ _ _ _ _ (by omega)).trans h0.c8, fun k hk => (frozen_set _ _ _ _).trans (h0.fz k hk)⟩, rfl⟩ ⟨hfr, fun k hk => .inl (by rw [hF]; exact hk)⟩
  rcases j with _ | _ | _ | _ | _ | _ | _ | j <;> first | exact absurd rfl hj | exact h

theorem row_off {W w3 : World} {U : Nat → Prop} {e : TypeId} {size n m c : Nat} {p : Option Addr} {xs : List Value} (ho : w3.ownsRow W.heap.size e size (.slice p m c) n xs) (hU : ∀ k, U k → k < W.heap.size) : ∀ b o, p = some ⟨b, o, none⟩ → 0 < m → ¬ U b := fun b o hp _ hb => by
  subst hp
  have e1 := (ho.lt b rfl).1
  have := hU b hb
  omega

/-- What the writing of what was made leaves. -/
def WrtI (pb base : Nat) (s : PgS) (k : Nat) (U : Nat → Prop) (w0 wr : World) : Prop :=
  ∃ nw' wr' U', Pg pb base { s with nw := nw', wr := wr' } U' wr ∧ Step U U' w0 wr ∧ nw'.length = s.nw.length ∧ (∀ j : Nat, (j : Int) ∉ s.A.map (·.1) → nw'.getD j default = s.nw.getD j default) ∧ wr'.length = s.wr.length + k

theorem wrt_next {k j kk n : Nat} {b : ByteArray} {w0 wr : World} (h : WrtI pb base s k U w0 wr) (hm : (j : Int) ∈ s.A.map (·.1)) (hj : j < s.nw.length) (hb : b.size ≤ 240) (hw : s.wr.length + k < 1000) :
    ∀ W, Below wr.heap.size wr W → Calls Tryz.prog 23 #[.pointer (some ⟨s.db, 0, none⟩), .int .i64 (j : Int), .string (sealS j n kk b)] W fun e w' => e = .returned (.int .i64 0) ∧ WrtI pb base s (k + 1) U w0 w' := by
  obtain ⟨nw', wr', U', hP, hS, hl, hn, hwl⟩ := h
  intro W hW
  refine (pg_dwrite j (sealS j n kk b) (hP.below hW) (by show j < nw'.length; omega) (sealS_size _ _ _ _ hb) (by show wr'.length < 1000; omega)).mono ?_
  rintro e w' ⟨he, U2, hP2, hS2⟩
  refine ⟨he, nw'.set j (sealS j n kk b), wr' ++ [((j : Int), sealS j n kk b)], U2, hP2, (hS.trans (Step.still hW)).trans hS2, by simpa using hl, fun i hi => ?_, by simp; omega⟩
  have hne : j ≠ i := fun e => hi (by rw [← e]; exact hm)
  rw [← hn i hi, List.getD, List.getD, List.getElem?_set_ne hne]

set_option maxHeartbeats 8000000 in
set_option maxRecDepth 100000 in
theorem pg_flush (h : Pg pb base s U w) (hA : SealA s.A) (hk : ∀ t ∈ s.A.map (·.1), t < (s.nw.length : Int)) (hn : s.nm ≤ 1000000) (hl : s.A.length ≤ 500) (hwr : s.wr.length = 0) (hfw : s.fw.length ≤ 1000) (hD : s.D.length ≤ 1000) (hsp : s.sp.length ≤ 1000) (hll : s.l.length ≤ 1000) :
    Calls Tryz.prog 28 #[.pointer (some ⟨pb, 0, none⟩)] w fun e w' => e = .returned (.int .i64 0) ∧ ∃ s' U', Pg pb base s' U' w' ∧ Step U U' w w' ∧ s'.db = s.db ∧ s'.most = s.most ∧ s'.nw.length = s.nw.length ∧ (∀ j : Nat, (j : Int) ∉ s.A.map (·.1) → s'.nw.getD j default = s.nw.getD j default) := by
  have HNO := Lib.hid (pg_none h.cells)
  have HMD := Lib.hid (pg_made h hn (by omega))
  have HP := Lib.hid h
  have HKL : Hid ((CL.srt (s.A.map (·.1))).length = s.A.length) := Lib.hid (by rw [CL.srt_length, List.length_map])
  have HEL : Hid (∀ k, k < s.A.length → HL.el (CL.srt (s.A.map (·.1))) k ∈ s.A.map (·.1)) := Lib.hid (fun k hk => (CL.srt_perm _).mem_iff.1 (HL.el_mem _ k (by rw [CL.srt_length, List.length_map]; exact hk)))
  clear h
  go_enter Tryz.func28, Tryz.ntmps28
  go_wp2_with fail
  refine HNO.out.mono ?_
  rintro e w1 ⟨rfl, hw1⟩
  subst hw1
  go_wp2_with fail
  refine HMD.out.mono ?_
  rintro e w2 ⟨u, rfl, ho, hb⟩
  obtain ⟨up, uc, rfl⟩ := owns_slice ho
  have hr := RdI.of_own ho HKL.out
  generalize CL.srt (s.A.map (·.1)) = ks at *
  have HUB : Hid (∀ b o, up = some ⟨b, o, none⟩ → 0 < s.A.length → ¬ U b) := Lib.hid (fun b o e h0 hU => by
    obtain ⟨g, cap, hv, hg, _, _⟩ := owns_len ho h0
    injection hv with hv _ _
    rw [hv] at e
    injection e with e
    injection e with e _ _
    have := HP.out.lt b hU
    omega)
  have HR0 := Lib.hid hr
  have HST : Hid (WrtI pb base s 0 U w2 w2) := Lib.hid ⟨s.nw, s.wr, U, HP.out.below hb, Step.refl _ _, rfl, fun _ _ => rfl, rfl⟩
  have HS12 : Hid (Step U U w1 w2) := Lib.hid (Step.still hb)
  clear ho hb hr HMD
  go_wp2
  go_loopw [4, 5, 6, 12] (fun _ _ _ iv wr => ∃ k : Nat, k ≤ s.A.length ∧ iv = .int .i64 k ∧ Hid (WrtI pb base s k U w2 wr)) (fun _ _ _ iv _ => s.A.length - (intOf iv).toNat)
  case atStart => exact ⟨0, Nat.zero_le _, rfl, HST⟩
  case round =>
    clear HST
    obtain ⟨k, hk', rfl, hW⟩ := hrel
    obtain ⟨nw', wr', U', hP, hS, hln, hnn, hwl⟩ := hW.out
    by_cases hlt : k < s.A.length
    · obtain ⟨b, o, e, hbl, hc⟩ := HR0.out.2 (by omega)
      have hcell := (hS.1.cell (p := ⟨b, o + k, none⟩) hbl (HUB.out b o e (by omega))).trans (hc k hlt)
      have hmem := HEL.out k hlt
      subst e
      clear hc
      generalize HL.el ks k = x at *
      obtain ⟨q, hq, hqx⟩ := List.mem_map.1 hmem
      obtain ⟨j, kk, n, bd, rfl, hj, hn2, hk1, hk2, hbd⟩ := hA q hq
      have hqx : (j : Int) = x := hqx
      subst hqx
      obtain ⟨v, hv, hlk⟩ := made_get hP (j : Int) (int_wf (by omega) (by omega)) hmem
      obtain ⟨j2, kk2, n2, bd2, he2, hj2, hn22, hk12, hk22, hbd2⟩ := hA _ hv
      injection he2 with he1 he2
      obtain rfl : j = j2 := by omega
      subst he2
      unfold pgv at hlk
      have c5 := hP.cells.c5
      have c0 := hP.cells.c0
      have HSE := Lib.hid (page_seal j n2 kk2 bd2 wr hj hn22 hk12 hk22 hbd2)
      have HWN := Lib.hid (wrt_next (kk := kk2) (n := n2) (b := bd2) hW.out hmem (by have := hk _ hmem; omega) hbd2 (by omega))
      have hlt0 := hP.here
      clear hP hS hln hnn hwl hW
      go_wp2_with fail
      refine HSE.out.mono ?_
      rintro e w4 ⟨rfl, hb4⟩
      have c0' := (hb4.cell (p := ⟨pb, 0, none⟩) hlt0).trans c0
      have HW4 := Lib.hid (HWN.out _ hb4)
      clear hb4 HSE HWN
      go_wp2_with fail
      refine HW4.out.mono ?_
      rintro e w5 ⟨rfl, hW5⟩
      have HW5 := Lib.hid hW5
      clear hW5 HW4 hcell c0 c0' c5
      go_wp2
      go_roundw
      case rel => exact ⟨k + 1, by omega, by go_num, HW5⟩
      case measure => simp [intOf]; omega
    · obtain rfl : k = s.A.length := by omega
      have hPd : Pg pb base { s with nw := nw', wr := wr' } U' wr.drew := hP.keep ((Fr.refl (fun _ => False) wr).drew) (fun _ _ h => h)
      have c1 := hP.cells.c1
      have c4 : wr.cell? ⟨pb, 4, none⟩ = some (.int .i64 s.txn) := hP.cells.c4
      have HPD := Lib.hid hPd
      have HDR := Lib.hid (pg_dropped hPd hn (by show s.D.length ≤ 1000000; omega))
      have HS0 : Hid (Step U U' w1 wr.drew) := Lib.hid ((HS12.out.trans hS).trans ⟨((Fr.refl (fun _ => False) wr).drew).mono (fun _ _ h => h.elim), fun k h => .inl h⟩)
      have HNW := Lib.hid (And.intro hln hnn)
      clear hP hPd hS hln hnn hwl hW HR0 HUB HS12
      go_wp2_with fail
      go_region_with (first
        | (go_at_call 19; refine HDR.out.mono ?_; rintro e w3 ⟨u3, rfl, ho3, hb3⟩; obtain ⟨p3, c3, rfl⟩ := owns_slice ho3
           have hP3 := HPD.out.below hb3
           have y1 := hP3.cells.c1
           have y4 : w3.cell? ⟨pb, 4, none⟩ = some (.int .i64 s.txn) := hP3.cells.c4
           have HG := Lib.hid (pg_fgive s.txn p3 _ c3 _ hP3 (RdI.of_own ho3 (CL.srt_length _)) (row_off ho3 HPD.out.lt) (by show s.fw.length + s.D.length < 1000000; omega))
           have HS3 := Lib.hid (HS0.out.trans (Step.still hb3))
           clear ho3 hb3 hP3)
        | (go_at_call 62; refine HG.out.mono ?_; rintro e w4 ⟨rfl, U4, hP4, hS4⟩; have HP4 := Lib.hid hP4; have HS4 := Lib.hid (HS3.out.trans hS4); clear hP4 hS4))
      all_goals
        have hPd : Pg pb base _ U4 w4.drew := HP4.out.keep ((Fr.refl (fun _ => False) w4).drew) (fun _ _ h => h)
        have z1 := HP4.out.cells.c1
        have z8 := HP4.out.cells.c8
        have HPD4 := Lib.hid hPd
        have HLS := Lib.hid (pg_slist hPd)
        have HS5 : Hid (Step U U4 w1 w4.drew) := Lib.hid (HS4.out.trans ⟨((Fr.refl (fun _ => False) w4).drew).mono (fun _ _ h => h.elim), fun k h => .inl h⟩)
        clear hPd HG HS3 HDR HPD HS0 c1 c4 y1 y4
        go_wp2_with fail
        go_region_with (first
          | (go_at_call 49; refine HLS.out.mono ?_; rintro e w5 ⟨u5, rfl, ho5, hb5⟩; obtain ⟨p5, c5, rfl⟩ := owns_slice ho5
             have hP5 := HPD4.out.below hb5
             have y1 := hP5.cells.c1
             have HG := Lib.hid (pg_fbacks p5 _ c5 _ hP5 (RdI.of_own ho5 (CL.srt_length _)) (row_off ho5 HPD4.out.lt) (by show s.l.length + s.sp.length < 1000000; omega))
             have HS6 := Lib.hid (HS5.out.trans (Step.still hb5))
             clear ho5 hb5 hP5)
          | (go_at_call 25; refine HG.out.mono ?_; rintro e w6 ⟨rfl, l6, U6, hP6, hS6⟩; have HP6 := Lib.hid hP6; have HS7 := Lib.hid (HS6.out.trans hS6); clear hP6 hS6))
        all_goals
          have x2 := HP6.out.cells.c2
          have x3 : w6.cell? ⟨pb, 3, none⟩ = some (.int .i64 s.pages) := HP6.out.cells.c3
          have f2 := HP6.out.cells.fz 2 (by omega)
          obtain ⟨U7, hP7, hS7⟩ := step_base HP6.out s.pages
          have HCL := Lib.hid (pg_cleared hP7 rfl)
          have HS8 := Lib.hid (HS7.out.trans hS7)
          clear hP7 hS7 HP6 HS7 HG HS6 HS5 HLS HPD4 HP4 HS4 z1 z8 y1
          go_wp2_with fail
          refine HCL.out.mono ?_
          rintro e w8 ⟨rfl, bm, bd, bw, sb, sbase, U8, hP8, hS9⟩
          have HE : Hid (∃ s' U', Pg pb base s' U' w8 ∧ Step U U' w1 w8 ∧ s'.db = s.db ∧ s'.most = s.most ∧ s'.nw.length = s.nw.length ∧ (∀ j : Nat, (j : Int) ∉ s.A.map (·.1) → s'.nw.getD j default = s.nw.getD j default)) := Lib.hid ⟨_, U8, hP8, HS8.out.trans hS9, rfl, rfl, HNW.out.1, HNW.out.2⟩
          clear hP8 hS9
          go_wp2
          go_ret
          exact ⟨rfl, HE.out⟩
end
end Go.Proofs.YtoagbcbkaloacaaGreatDoor
