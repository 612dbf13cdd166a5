/- pager: none, next, take. -/
import Derived.Test.YtlocadmiomglaaaGreatDoorGNew
namespace Go.Proofs.YtlocadmiomglaaaGreatDoor
open Go.RowKit Go.Maps Go.Conc

section
variable {pb base : Nat} {s : PgS} {U : Nat → Prop} {w w' : World}

theorem Pg.cells (h : Pg pb base s U w) : PgC pb s.db s.fb s.base s.pages s.txn s.bm s.bd s.bw s.sb w := by
  obtain ⟨Fs, h, _⟩ := h
  exact (h.part 0).1
theorem Pg.dev (h : Pg pb base s U w) : ∃ F, Dv s.db s.dbase s.most true false 0 s.sy s.nw s.wr F w ∧ ∀ k, F k → U k := by
  obtain ⟨Fs, h, rfl⟩ := h
  exact ⟨Fs 1, h.part 1, fun k hk => ⟨1, hk⟩⟩
theorem Pg.fre (h : Pg pb base s U w) : ∃ F, Fe s.fb s.fbase s.l s.fw 0 (.map []) F w ∧ ∀ k, F k → U k := by
  obtain ⟨Fs, h, rfl⟩ := h
  exact ⟨Fs 2, h.part 2, fun k hk => ⟨2, hk⟩⟩
theorem Pg.made (h : Pg pb base s U w) : heldM s.bm s.nm s.A w := by
  obtain ⟨Fs, h, _⟩ := h
  exact (h.part 3).1
theorem Pg.drp (h : Pg pb base s U w) : unitM s.bd s.nm s.D w := by
  obtain ⟨Fs, h, _⟩ := h
  exact (h.part 4).1
theorem Pg.was (h : Pg pb base s U w) : unitM s.bw s.nm s.W w := by
  obtain ⟨Fs, h, _⟩ := h
  exact (h.part 5).1
theorem Pg.spa (h : Pg pb base s U w) : ∃ v, PileI s.sb s.sbase v s.sp w := by
  obtain ⟨Fs, h, _⟩ := h
  obtain ⟨v, h, _⟩ := h.part 6
  exact ⟨v, h⟩
theorem Pg.here (h : Pg pb base s U w) : pb < w.heap.size := cell_lt h.cells.c0

set_option maxRecDepth 100000 in
theorem pg_none (h : PgC pb s.db s.fb s.base s.pages s.txn s.bm s.bd s.bw s.sb w) : Calls Tryz.prog 48 #[.pointer (some ⟨pb, 0, none⟩)] w fun e w' => e = .returned (.bool false) ∧ w' = w := by
  have c0 := h.c0
  clear h
  go_enter Tryz.func48, Tryz.ntmps48
  go_wp2
  go_ret
  exact ⟨rfl, rfl⟩

/-- The page that is made next. -/
def nextOf (s : PgS) : Int := if 0 < s.sp.length then HL.el s.sp 0 else if 0 < s.l.length then HL.el (CL.srt s.l) 0 else s.pages

set_option maxHeartbeats 1000000 in
set_option maxRecDepth 100000 in
theorem pg_next (h : Pg pb base s U w) : Calls Tryz.prog 56 #[.pointer (some ⟨pb, 0, none⟩)] w fun e w' => e = .returned (.int .i64 (nextOf s)) ∧ Below w.heap.size w w' := by
  have hc := h.cells
  have c8 := hc.c8
  have c1 := hc.c1
  have c3 := hc.c3
  obtain ⟨v, hP⟩ := h.spa
  obtain ⟨F, hF, _⟩ := h.fre
  have HLS := Lib.hid (fe_list hF)
  have hlt := h.here
  have HLC := Lib.hid (CL.srt_length s.l)
  by_cases hs : 0 < s.sp.length
  · have hn : nextOf s = HL.el s.sp 0 := by unfold nextOf; rw [if_pos hs]
    have HFS := Lib.hid (still_of ((pile_first_some s.sb s.sbase v s.sp w hP hs)))
    rw [hn]
    generalize HL.el s.sp 0 = x at *
    clear h hc hP hF hn hs HLS
    go_enter Tryz.func56, Tryz.ntmps56
    go_wp2_with fail
    refine HFS.out.mono ?_
    rintro e w1 ⟨rfl, rfl⟩
    go_wp2
    go_ret
    exact ⟨rfl, Below.refl _ _⟩
  · have hsp : s.sp = [] := List.eq_nil_of_length_eq_zero (by omega)
    rw [hsp] at hP
    have HFS := Lib.hid (still_of (pile_first_none s.sb s.sbase v w hP))
    by_cases hl : 0 < s.l.length
    · have hn : nextOf s = HL.el (CL.srt s.l) 0 := by unfold nextOf; rw [if_neg hs, if_pos hl]
      rw [hn]
      have HPOS := Lib.hid hl
      clear h hc hP hF hn hs hsp hl
      go_enter Tryz.func56, Tryz.ntmps56
      go_wp2_with fail
      refine HFS.out.mono ?_
      rintro e w1 ⟨rfl, rfl⟩
      go_wp2_with fail
      refine HLS.out.mono ?_
      rintro e w2 ⟨u, rfl, ho, hb⟩
      obtain ⟨g, cap, rfl, _, hgl, hcap⟩ := owns_len ho HPOS.out
      have hx : w2.cell? ⟨g, 0, none⟩ = some (.int .i64 (HL.el (CL.srt s.l) 0)) := by
        have e := ho.cells (g := g) rfl 0 (.int .i64 (HL.el (CL.srt s.l) 0)) (by
          have r0 := rowOf_at ncells ncells_length (CL.srt s.l) 0 0 (by rw [HLC.out]; exact HPOS.out) (by omega)
          rw [Nat.zero_mul, Nat.add_zero] at r0
          exact r0)
        rw [add_at, Nat.zero_add] at e
        exact e
      have hpos : (0 : Int) < (s.l.length : Int) := by have := HPOS.out; omega
      have hposn : 0 < s.l.length := HPOS.out
      generalize hxx : HL.el (CL.srt s.l) 0 = x at *
      have HXX := Lib.hid hxx
      have HB := Lib.hid hb
      clear ho hb hxx
      go_wp2
      go_ret
      exact ⟨by rw [HXX.out]; rfl, HB.out⟩
    · have hl0 : s.l = [] := List.eq_nil_of_length_eq_zero (by omega)
      have hn : nextOf s = s.pages := by unfold nextOf; rw [if_neg hs, if_neg hl]
      rw [hn]
      rw [hl0] at HLS
      clear h hc hP hF hn hs hsp hl
      go_enter Tryz.func56, Tryz.ntmps56
      go_wp2_with fail
      refine HFS.out.mono ?_
      rintro e w1 ⟨rfl, rfl⟩
      go_wp2_with fail
      refine HLS.out.mono ?_
      rintro e w2 ⟨u, rfl, ho, hb⟩
      obtain ⟨p, cap, rfl⟩ := owns_slice ho
      have c3' := (hb.cell (p := ⟨pb, 3, none⟩) hlt).trans c3
      have HB := Lib.hid hb
      clear ho hb
      go_wp2
      go_ret
      exact ⟨rfl, HB.out⟩

theorem next_least (hs : s.sp = []) (hl : 0 < s.l.length) (hmin : ∀ y ∈ s.l, HL.el s.l 0 ≤ y) : nextOf s = HL.el s.l 0 := by
  have e : nextOf s = HL.el (CL.srt s.l) 0 := by
    unfold nextOf
    rw [if_neg (by rw [hs]; simp), if_pos hl]
  rw [e]
  have hp := CL.srt_perm s.l
  have h0 : 0 < (CL.srt s.l).length := by rw [CL.srt_length]; exact hl
  have m1 := hp.mem_iff.1 (HL.el_mem (CL.srt s.l) 0 h0)
  have m2 := hp.mem_iff.2 (HL.el_mem s.l 0 hl)
  have hso := CL.srt_sorted s.l
  have hle : HL.el (CL.srt s.l) 0 ≤ HL.el s.l 0 := by
    generalize CL.srt s.l = t at *
    cases t with
    | nil => simp at h0
    | cons a t =>
      have e0 : HL.el (a :: t) 0 = a := rfl
      rw [e0]
      rcases List.mem_cons.1 m2 with h | h
      · omega
      · exact (List.pairwise_cons.1 hso).1 _ h
  exact Int.le_antisymm hle (hmin _ m1)

/-- What take does. -/
def TakeR (s : PgS) (e : Ending) (s' : PgS) : Prop :=
  (∃ sp', 0 < s.sp.length ∧ e = .returned (.tuple #[.int .i64 (nextOf s), .int .i64 0]) ∧ s' = { s with sp := sp' } ∧ (nextOf s :: sp').Perm s.sp) ∨
  (∃ l', s.sp = [] ∧ 0 < s.l.length ∧ e = .returned (.tuple #[.int .i64 (nextOf s), .int .i64 0]) ∧ s' = { s with l := l' } ∧ (nextOf s :: l').Perm s.l) ∨
  (s.sp = [] ∧ s.l = [] ∧ ((s.pages + 1 : Nat) : Int) ≤ s.most ∧ e = .returned (.tuple #[.int .i64 (nextOf s), .int .i64 0]) ∧ s' = { s with pages := s.pages + 1, sy := s.sy ++ List.replicate (s.pages + 1 - s.nw.length) page0, nw := s.nw ++ List.replicate (s.pages + 1 - s.nw.length) page0 }) ∨
  (s.sp = [] ∧ s.l = [] ∧ s.most < ((s.pages + 1 : Nat) : Int) ∧ e = .returned (.tuple #[.int .i64 0, .int .i64 10]) ∧ s' = s)

theorem step_own (hc : w.cell? ⟨pb, 3, none⟩ = some (.int .i64 s.pages)) (h : Pg pb base s U w) (n : Nat) : ∃ U', Pg pb base { s with pages := n } U' (w.setCell ⟨pb, 3, none⟩ (.int .i64 n)) ∧ Step U U' w (w.setCell ⟨pb, 3, none⟩ (.int .i64 n)) := by
  obtain ⟨Fs, h, rfl⟩ := h
  obtain ⟨h0, hF⟩ := h.part 0
  have hfr : Fr (Fs 0) w (w.setCell ⟨pb, 3, none⟩ (.int .i64 n)) := by
    rw [hF]
    exact (Fr.refl (fun k => k = pb) w).setCell (p := ⟨pb, 3, none⟩) (fun _ => rfl) _
  refine PgI.turn 0 h (fun j hj F W h => ?_) ⟨⟨(set_co _ _ _ _ _ (by omega)).trans h0.c0, (set_co _ _ _ _ _ (by omega)).trans h0.c1, (set_co _ _ _ _ _ (by omega)).trans h0.c2, cell_set_same _ _ _ _ hc, (set_co _ _ _ _ _ (by omega)).trans h0.c4, (set_co _ _ _ _ _ (by omega)).trans h0.c5, (set_co _ _ _ _ _ (by omega)).trans h0.c6, (set_co _ _ _ _ _ (by omega)).trans h0.c7, (set_co _ _ _ _ _ (by omega)).trans h0.c8, fun k hk => (frozen_set _ _ _ _).trans (h0.fz k hk)⟩, rfl⟩ ⟨hfr, fun k hk => .inl (by rw [hF]; exact hk)⟩
  rcases j with _ | _ | _ | _ | _ | _ | _ | j <;> first | exact absurd rfl hj | exact h

variable {Fs : Nat → Nat → Prop} {F' : Nat → Prop}
theorem PgI.dev {sy nw : List ByteArray} {wr : List Wr} (h : PgI pb base s Fs w) (hD : Dv s.db s.dbase s.most true false 0 sy nw wr F' w') (hS : Step (Fs 1) F' w w') : ∃ U', Pg pb base { s with sy := sy, nw := nw, wr := wr } U' w' ∧ Step (fun k => ∃ j, Fs j k) U' w w' := by
  refine PgI.turn 1 h (fun j hj F W h => ?_) hD hS
  rcases j with _ | _ | _ | _ | _ | _ | _ | j <;> first | exact absurd rfl hj | exact h
theorem PgI.fre {l' : List Int} {fw' : List (Int × Int)} (h : PgI pb base s Fs w) (hD : Fe s.fb s.fbase l' fw' 0 (.map []) F' w') (hS : Step (Fs 2) F' w w') : ∃ U', Pg pb base { s with l := l', fw := fw' } U' w' ∧ Step (fun k => ∃ j, Fs j k) U' w w' := by
  refine PgI.turn 2 h (fun j hj F W h => ?_) hD hS
  rcases j with _ | _ | _ | _ | _ | _ | _ | j <;> first | exact absurd rfl hj | exact h
theorem PgI.spa {sp' : List Int} (h : PgI pb base s Fs w) (hD : spare s.sb s.sbase sp' F' w') (hS : Step (Fs 6) F' w w') : ∃ U', Pg pb base { s with sp := sp' } U' w' ∧ Step (fun k => ∃ j, Fs j k) U' w w' := by
  refine PgI.turn 6 h (fun j hj F W h => ?_) hD hS
  rcases j with _ | _ | _ | _ | _ | _ | _ | j <;> first | exact absurd rfl hj | exact h

set_option maxHeartbeats 4000000 in
set_option maxRecDepth 100000 in
theorem pg_take (h : Pg pb base s U w) (hnm : (s.nw.length : Int) ≤ s.most) (hm : s.most ≤ 3000) (hpg : s.pages ≤ s.nw.length) : Calls Tryz.prog 57 #[.pointer (some ⟨pb, 0, none⟩)] w fun e w' => ∃ s' U', TakeR s e s' ∧ Pg pb base s' U' w' ∧ Step U U' w w' := by
  have hc := h.cells
  have c8 := hc.c8
  have c1 := hc.c1
  have c3 := hc.c3
  have c0 := hc.c0
  have f3 := hc.fz 3 (by omega)
  have hlt := h.here
  have HH := Lib.hid h
  obtain ⟨Fs, hI, rfl⟩ := h
  by_cases hs : 0 < s.sp.length
  · have hn : nextOf s = HL.el s.sp 0 := by unfold nextOf; rw [if_pos hs]
    have HTU : Hid (Calls Tryz.prog 136 #[.pointer (some ⟨s.sb, 0, none⟩)] w fun e w' => e = .returned (.tuple #[.int .i64 (nextOf s), .bool true]) ∧ ∃ sp' U', (nextOf s :: sp').Perm s.sp ∧ Pg pb base { s with sp := sp' } U' w' ∧ Step (fun k => ∃ j, Fs j k) U' w w') := Lib.hid (by
      obtain ⟨v, hP, hF, hsb⟩ := hI.part 6
      refine (pile_take_some s.sb s.sbase v s.sp w hP hs).mono ?_
      rintro e w' ⟨he, v', l', hP', hp', hfr, hv⟩
      rw [← hn] at he hp'
      refine ⟨he, l', ?_⟩
      obtain ⟨U', h1, h2⟩ := hI.spa (sp' := l') (F' := pileF s.sb v') ⟨v', hP', rfl, hsb⟩ ⟨by rw [hF]; exact hfr, fun k hk => .inl (by
        rw [hF]
        rcases hk with hk | hk
        · exact .inl hk
        · exact .inr (by rw [← hv]; exact hk))⟩
      exact ⟨U', hp', h1, h2⟩)
    have HS := Lib.hid hs
    clear hI hc hn hs HH hnm hm hpg
    go_enter Tryz.func57, Tryz.ntmps57
    go_wp2_with fail
    refine HTU.out.mono ?_
    rintro e w1 ⟨rfl, sp', U', hp', hP', hS'⟩
    have HE : Hid (∃ s' U', TakeR s (.returned (.tuple #[.int .i64 (nextOf s), .int .i64 0])) s' ∧ Pg pb base s' U' w1 ∧ Step (fun k => ∃ j, Fs j k) U' w w1) := Lib.hid ⟨_, U', .inl ⟨sp', HS.out, rfl, rfl, hp'⟩, hP', hS'⟩
    clear hp' hP' hS'
    go_wp2
    go_ret2
    exact HE.out
  · have hsp : s.sp = [] := List.eq_nil_of_length_eq_zero (by omega)
    have HFS : Hid (Calls Tryz.prog 136 #[.pointer (some ⟨s.sb, 0, none⟩)] w fun e w' => e = .returned (.tuple #[.int .i64 0, .bool false]) ∧ w' = w) := Lib.hid (by
      obtain ⟨v, hP, hF, hsb⟩ := hI.part 6
      rw [hsp] at hP
      exact still_of (pile_take_none s.sb s.sbase v w hP))
    have HSP := Lib.hid hsp
    by_cases hl : 0 < s.l.length
    · have HTU : Hid (Calls Tryz.prog 137 #[.pointer (some ⟨s.fb, 0, none⟩)] w fun e w' => e = .returned (.tuple #[.int .i64 (nextOf s), .bool true]) ∧ ∃ l' U', (nextOf s :: l').Perm s.l ∧ Pg pb base { s with l := l' } U' w' ∧ Step (fun k => ∃ j, Fs j k) U' w w') := Lib.hid (by
        have hF2 : Fe s.fb s.fbase s.l s.fw 0 (.map []) (Fs 2) w := hI.part 2
        refine (fe_take hF2 hl).mono ?_
        rintro e w' ⟨he, l', F', hI', hp', hmin, hS'⟩
        have hnx := next_least HSP.out hl hmin
        rw [← hnx] at he hp'
        obtain ⟨U', h1, h2⟩ := hI.fre hI' hS'
        exact ⟨he, l', U', hp', h1, h2⟩)
      have HS := Lib.hid hl
      clear hI hc hs hsp hl HH hnm hm hpg
      go_enter Tryz.func57, Tryz.ntmps57
      go_wp2_with fail
      refine HFS.out.mono ?_
      rintro e w1 ⟨rfl, rfl⟩
      go_wp2_with fail
      refine HTU.out.mono ?_
      rintro e w2 ⟨rfl, l', U', hp', hP', hS'⟩
      have HE : Hid (∃ s' U', TakeR s (.returned (.tuple #[.int .i64 (nextOf s), .int .i64 0])) s' ∧ Pg pb base s' U' w2 ∧ Step (fun k => ∃ j, Fs j k) U' w1 w2) := Lib.hid ⟨_, U', .inr (.inl ⟨l', HSP.out, HS.out, rfl, rfl, hp'⟩), hP', hS'⟩
      clear hp' hP' hS'
      go_wp2
      go_ret2
      exact HE.out
    · have hl0 : s.l = [] := List.eq_nil_of_length_eq_zero (by omega)
      have HL0 := Lib.hid hl0
      have hn : nextOf s = s.pages := by unfold nextOf; rw [if_neg hs, if_neg hl]
      have HFT : Hid (Calls Tryz.prog 137 #[.pointer (some ⟨s.fb, 0, none⟩)] w fun e w' => e = .returned (.tuple #[.int .i64 0, .bool false]) ∧ w' = w) := Lib.hid (by
        have hF2 : Fe s.fb s.fbase s.l s.fw 0 (.map []) (Fs 2) w := hI.part 2
        rw [hl0] at hF2
        exact fe_take_none hF2)
      have HLEN : Hid (Calls Tryz.prog 43 #[.pointer (some ⟨s.db, 0, none⟩)] w.drew fun e w' => e = .returned (.int .i64 s.nw.length) ∧ w' = w.drew) := Lib.hid (by
        have hD : Dv s.db s.dbase s.most true false 0 s.sy s.nw s.wr (Fs 1) w := hI.part 1
        obtain ⟨v4, v5, cv, h, hok, hb, _⟩ := hD
        obtain ⟨p, c, hv⟩ := owns_slice h.o5
        have c5 := h.c5
        rw [hv] at c5
        exact dev_len s.db p s.nw.length c _ c5)
      have hpb : s.pages ≤ 3000 := by omega
      have hwq : IntKind.i64.wrap ((s.pages : Int) + 1) = (s.pages : Int) + 1 := IntWalk.i64_in _ ⟨by omega, by omega⟩
      have hwq2 : IntKind.i64.wrap ((s.pages : Int) + 1 - 1) = (s.pages : Int) := by rw [show (s.pages : Int) + 1 - 1 = (s.pages : Int) by omega]; exact IntWalk.i64_in _ ⟨by omega, by omega⟩
      have HTR : Hid (∀ (s' : PgS) (e : Ending) (n : Nat) (U' : Nat → Prop) (W : World), Pg pb base s' U' W → Step (fun k => ∃ j, Fs j k) U' w W → TakeR s e { s' with pages := n } → W.cell? ⟨pb, 3, none⟩ = some (.int .i64 s'.pages) → ∃ s'' U'', TakeR s e s'' ∧ Pg pb base s'' U'' (W.setCell ⟨pb, 3, none⟩ (.int .i64 n)) ∧ Step (fun k => ∃ j, Fs j k) U'' w (W.setCell ⟨pb, 3, none⟩ (.int .i64 n))) := Lib.hid (fun s' e n U' W hP hS hT hc => by
        obtain ⟨U2, h1, h2⟩ := step_own hc hP n
        exact ⟨_, U2, hT, h1, hS.trans h2⟩)
      have hP0 : ∀ W, Fr (fun _ => False) w W → Pg pb base s (fun k => ∃ j, Fs j k) W ∧ Step (fun k => ∃ j, Fs j k) (fun k => ∃ j, Fs j k) w W := fun W hW => ⟨HH.out.keep hW (fun _ _ h => h), hW.mono (fun _ _ h => h.elim), fun k h => .inl h⟩
      have HP0 := Lib.hid hP0
      have HN := Lib.hid hn
      by_cases hA : s.pages + 1 ≤ s.nw.length
      · have hq : decide ((s.nw.length : Int) < (s.pages : Int) + 1) = false := by rw [decide_eq_false_iff_not]; omega
        have HE : Hid (TakeR s (.returned (.tuple #[.int .i64 s.pages, .int .i64 0])) { s with pages := s.pages + 1 }) := Lib.hid (.inr (.inr (.inl ⟨HSP.out, HL0.out, by omega, by rw [hn], by rw [show s.pages + 1 - s.nw.length = 0 by omega]; simp⟩)))
        clear hI hc hs hsp hl HH hnm hm hpg hA hl0 hn hP0
        go_enter Tryz.func57, Tryz.ntmps57
        go_wp2_with fail
        refine HFS.out.mono ?_
        rintro e w1 ⟨rfl, rfl⟩
        go_wp2_with fail
        refine HFT.out.mono ?_
        rintro e w1 ⟨rfl, rfl⟩
        go_wp2_with fail
        go_region_with (go_at_call 43; refine HLEN.out.mono ?_; rintro e w2 ⟨rfl, rfl⟩)
        all_goals
          obtain ⟨hPw, hSw⟩ := HP0.out w1.drew ((Fr.refl _ _).drew)
          have HEE := Lib.hid (HTR.out s _ (s.pages + 1) _ w1.drew hPw hSw HE.out hPw.cells.c3)
          have d3 := hPw.cells.c3
          have e3 := hPw.cells.fz 3 (by omega)
          clear hPw hSw
          go_wp2
          go_ret2
          exact HEE.out
      · have hB : s.nw.length = s.pages := by omega
        have hq : decide ((s.nw.length : Int) < (s.pages : Int) + 1) = true := by rw [decide_eq_true_eq]; omega
        by_cases hC : ((s.pages + 1 : Nat) : Int) ≤ s.most
        · have HGR : Hid (∀ W, Fr (fun _ => False) w W → Calls Tryz.prog 39 #[.pointer (some ⟨s.db, 0, none⟩), .int .i64 ((s.pages : Int) + 1)] W fun e w' => e = .returned (.int .i64 0) ∧ ∃ U', Pg pb base { s with sy := s.sy ++ List.replicate (s.pages + 1 - s.nw.length) page0, nw := s.nw ++ List.replicate (s.pages + 1 - s.nw.length) page0 } U' w' ∧ Step (fun k => ∃ j, Fs j k) U' w w') := Lib.hid (fun W hW => by
            have hD : Dv s.db s.dbase s.most true false 0 s.sy s.nw s.wr (Fs 1) W := Dv.keep (hI.part 1) hW (fun _ _ h => h)
            have e := dv_grow (s.pages + 1) hD (by omega) hC hm
            refine e.mono ?_
            rintro e w' ⟨he, F', hD', hS'⟩
            have hIW : PgI pb base s Fs W := ⟨fun i => (hI.part i).keep hW (fun _ _ h => h), hI.apart, hI.ge, Nat.le_trans hI.bsz hW.size⟩
            obtain ⟨U', h1, h2⟩ := hIW.dev hD' hS'
            exact ⟨he, U', h1, (Step.trans ⟨hW.mono (fun _ _ h => h.elim), fun k h => .inl h⟩ h2)⟩)
          have HE : Hid (TakeR s (.returned (.tuple #[.int .i64 s.pages, .int .i64 0])) { s with pages := s.pages + 1, sy := s.sy ++ List.replicate (s.pages + 1 - s.nw.length) page0, nw := s.nw ++ List.replicate (s.pages + 1 - s.nw.length) page0 }) := Lib.hid (.inr (.inr (.inl ⟨HSP.out, HL0.out, hC, by rw [hn], rfl⟩)))
          clear hI hc hs hsp hl HH hnm hm hpg hA hl0 hn hP0 hB hC
          go_enter Tryz.func57, Tryz.ntmps57
          go_wp2_with fail
          refine HFS.out.mono ?_
          rintro e w1 ⟨rfl, rfl⟩
          go_wp2_with fail
          refine HFT.out.mono ?_
          rintro e w1 ⟨rfl, rfl⟩
          go_wp2_with fail
          go_region_with (go_at_call 43; refine HLEN.out.mono ?_; rintro e w2 ⟨rfl, rfl⟩)
          all_goals
            go_wp2_with fail
            go_region_with (go_at_call 39; refine (HGR.out _ (((Fr.refl _ _).drew).drew)).mono ?_; rintro e w3 ⟨rfl, U3, hP3, hS3⟩; have d3 := hP3.cells.c3; have e3 := hP3.cells.fz 3 (by omega); have HEE := Lib.hid (HTR.out _ _ (s.pages + 1) _ w3 hP3 hS3 HE.out d3); clear hP3 hS3)
          all_goals
            go_wp2
            go_ret2
            exact HEE.out
        · have HGR : Hid (∀ W, Fr (fun _ => False) w W → Calls Tryz.prog 39 #[.pointer (some ⟨s.db, 0, none⟩), .int .i64 ((s.pages : Int) + 1)] W fun e w' => e = .returned (.int .i64 10) ∧ w' = W) := Lib.hid (fun W hW => by
            have hD : Dv s.db s.dbase s.most true false 0 s.sy s.nw s.wr (Fs 1) W := Dv.keep (hI.part 1) hW (fun _ _ h => h)
            have e := dv_grow_bad ((s.pages : Int) + 1) hD (.inr (by omega))
            rw [if_neg (by omega)] at e
            exact e)
          have HE : Hid (TakeR s (.returned (.tuple #[.int .i64 0, .int .i64 10])) s) := Lib.hid (.inr (.inr (.inr ⟨HSP.out, HL0.out, by omega, rfl, rfl⟩)))
          clear hI hc hs hsp hl HH hnm hm hpg hA hl0 hn hP0 hB hC HTR
          go_enter Tryz.func57, Tryz.ntmps57
          go_wp2_with fail
          refine HFS.out.mono ?_
          rintro e w1 ⟨rfl, rfl⟩
          go_wp2_with fail
          refine HFT.out.mono ?_
          rintro e w1 ⟨rfl, rfl⟩
          go_wp2_with fail
          go_region_with (go_at_call 43; refine HLEN.out.mono ?_; rintro e w2 ⟨rfl, rfl⟩)
          all_goals
            go_wp2_with fail
            go_region_with (go_at_call 39; refine (HGR.out _ (((Fr.refl _ _).drew).drew)).mono ?_; rintro e w3 ⟨rfl, rfl⟩; have HPW := Lib.hid (HP0.out _ (((Fr.refl _ _).drew).drew)))
          all_goals
            go_wp2
            go_ret2
            exact ⟨s, _, HE.out, HPW.out⟩
end
end Go.Proofs.YtlocadmiomglaaaGreatDoor
