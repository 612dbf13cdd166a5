/- pager: back; Drop of a page that was made here. -/
import Derived.Test.YtlocadmiomglaaaGreatDoorGRead
namespace Go.Proofs.YtlocadmiomglaaaGreatDoor
open Go.RowKit Go.Maps Go.Conc

section
variable {pb base : Nat} {s : PgS} {U : Nat → Prop} {w w' : World}

set_option maxHeartbeats 1000000 in
set_option maxRecDepth 100000 in
theorem pg_back_free (id : Int) (h : Pg pb base s U w) (hlt : id < (s.base : Int)) (hl : s.l.length < 900000) : Calls Tryz.prog 113 #[.pointer (some ⟨pb, 0, none⟩), .int .i64 id] w fun e w' => e = .returned (.tuple #[]) ∧ ∃ l' U', l'.Perm (s.l ++ [id]) ∧ Pg pb base { s with l := l' } U' w' ∧ Step U U' w w' := by
  have c2 := h.cells.c2
  have c1 := h.cells.c1
  have hg : id < (s.base : Int) := hlt
  obtain ⟨Fs, hI, rfl⟩ := h
  have hal : Fr (fun _ => False) w (w.alloc (.cells #[.int .i64 id] 3)) := (Fr.refl _ w).alloc _
  have HBK : Hid (Calls Tryz.prog 121 #[.pointer (some ⟨s.fb, 0, none⟩), .slice (some ⟨w.heap.size, 0, none⟩) 1 1] (w.alloc (.cells #[.int .i64 id] 3)) fun e w' => e = .returned (.tuple #[]) ∧ ∃ l' U', l'.Perm (s.l ++ [id]) ∧ Pg pb base { s with l := l' } U' w' ∧ Step (fun k => ∃ j, Fs j k) U' w w') := Lib.hid (by
    have hF : Fe s.fb s.fbase s.l s.fw 0 (.map []) (Fs 2) w := hI.part 2
    have hF1 : Fe s.fb s.fbase s.l s.fw 0 (.map []) (Fs 2) (w.alloc (.cells #[.int .i64 id] 3)) := hF.keep hal (fun _ _ h => h)
    refine (fe_back (some ⟨w.heap.size, 0, none⟩) 1 1 [id] hF1 (rd_new w [id] 3) (fun b o e _ hU => by
      injection e with e
      injection e with e _ _
      subst e
      exact Nat.lt_irrefl _ (hF.lt _ hU)) (by omega)).mono ?_
    rintro e w' ⟨he, l', F', hI', hp, hS⟩
    obtain ⟨U', h1, h2⟩ := hI.fre hI' (Step.trans ⟨hal.mono (fun _ _ h => h.elim), fun k h => .inl h⟩ hS)
    exact ⟨he, l', U', hp, h1, h2⟩)
  clear hI hlt hl hal
  go_enter Tryz.func113, Tryz.ntmps113
  go_wp2_with fail
  refine HBK.out.mono ?_
  rintro e w1 ⟨rfl, l', U', hp, hP, hS⟩
  have HE := Lib.hid (And.intro hp (And.intro hP hS))
  clear hp hP hS
  go_wp2
  go_end0
  exact ⟨rfl, l', U', HE.out⟩

set_option maxHeartbeats 1000000 in
set_option maxRecDepth 100000 in
theorem pg_back_spare (id : Int) (h : Pg pb base s U w) (hge : (s.base : Int) ≤ id) (hl : s.sp.length < 900000) : Calls Tryz.prog 113 #[.pointer (some ⟨pb, 0, none⟩), .int .i64 id] w fun e w' => e = .returned (.tuple #[]) ∧ ∃ sp' U', sp'.Perm (s.sp ++ [id]) ∧ Pg pb base { s with sp := sp' } U' w' ∧ Step U U' w w' := by
  have c2 := h.cells.c2
  have c8 := h.cells.c8
  have hg : ¬ id < (s.base : Int) := by omega
  obtain ⟨Fs, hI, rfl⟩ := h
  have hal : Fr (fun _ => False) w (w.alloc (.cells #[.int .i64 id] 3)) := (Fr.refl _ w).alloc _
  have HBK : Hid (Calls Tryz.prog 164 #[.pointer (some ⟨s.sb, 0, none⟩), .slice (some ⟨w.heap.size, 0, none⟩) 1 1] (w.alloc (.cells #[.int .i64 id] 3)) fun e w' => e = .returned (.tuple #[]) ∧ ∃ sp' U', sp'.Perm (s.sp ++ [id]) ∧ Pg pb base { s with sp := sp' } U' w' ∧ Step (fun k => ∃ j, Fs j k) U' w w') := Lib.hid (by
    obtain ⟨v, hP, hF, hsb⟩ := hI.part 6
    have hP1 : PileI s.sb s.sbase v s.sp (w.alloc (.cells #[.int .i64 id] 3)) := hP.keep hal (fun _ _ h => h)
    have hlt := PileI.lt4 hP
    refine (pile_put s.sb s.sbase v s.sp [id] (some ⟨w.heap.size, 0, none⟩) 1 1 _ hP1 (rd_new w [id] 3) (fun b o e _ hU => by
      injection e with e
      injection e with e _ _
      subst e
      exact Nat.lt_irrefl _ (hlt _ hU)) (by omega)).mono ?_
    rintro e w' ⟨he, v', l', hI', hp, hS, hL⟩
    obtain ⟨U', h1, h2⟩ := hI.spa (sp' := l') (F' := pileF s.sb v') ⟨v', hI', rfl, hsb⟩ (Step.trans (F1 := Fs 6) ⟨hal.mono (fun _ _ h => h.elim), fun k h => .inl h⟩ ⟨by rw [hF]; exact hS, fun k hk => by
      rcases hk with hk | hk
      · exact .inl (by rw [hF]; exact .inl hk)
      · rcases hL k hk with h1 | h1
        · exact .inl (by rw [hF]; exact .inr h1)
        · exact .inr h1⟩)
    exact ⟨he, l', U', hp, h1, h2⟩)
  clear hI hge hl hal
  go_enter Tryz.func113, Tryz.ntmps113
  go_wp2_with fail
  refine HBK.out.mono ?_
  rintro e w1 ⟨rfl, l', U', hp, hP, hS⟩
  have HE := Lib.hid (And.intro hp (And.intro hP hS))
  clear hp hP hS
  go_wp2
  go_end0
  exact ⟨rfl, l', U', HE.out⟩

/-- What Drop of a page that was made here leaves. -/
def DropO (s : PgS) (id : Int) (s' : PgS) : Prop :=
  (id < (s.base : Int) ∧ ∃ l', l'.Perm (s.l ++ [id]) ∧ s' = { s with A := ridA id s.A, W := id :: rid id s.W, nm := s.nm + 1, l := l' }) ∨
  ((s.base : Int) ≤ id ∧ ∃ sp', sp'.Perm (s.sp ++ [id]) ∧ s' = { s with A := ridA id s.A, W := id :: rid id s.W, nm := s.nm + 1, sp := sp' })

set_option maxHeartbeats 4000000 in
set_option maxRecDepth 100000 in
theorem pg_drop_own (id : Int) (h : Pg pb base s U w) (hid : (Lit.int .i64 id).wf = true) (h2 : 2 ≤ id) (hp : id < (s.pages : Int)) (hA : AllPg s.A) (hm : id ∈ s.A.map (·.1)) (hl : s.l.length < 900000) (hsl : s.sp.length < 900000) (hn : s.nm < 1000000) :
    Calls Tryz.prog 35 #[.pointer (some ⟨pb, 0, none⟩), .int .i64 id] w fun e w' => e = .returned (.int .i64 0) ∧ ∃ s' U', DropO s id s' ∧ Pg pb base s' U' w' ∧ Step U U' w w' := by
  have hrd : ∃ k n b, Calls Tryz.prog 112 #[.pointer (some ⟨pb, 0, none⟩), .int .i64 id] w fun e w' => e = .returned (.tuple #[pgv k n b, .int .i64 0]) ∧ Below w.heap.size w w' := by
    obtain ⟨D, ho, hR⟩ := h.made
    obtain ⟨q, hq, hq1⟩ := List.mem_map.1 hm
    obtain ⟨k, n, b, hv⟩ := hA q hq
    refine ⟨k, n, b, pg_read_made id k n b h hid h2 hp hm (fun v hv' => ?_)⟩
    have e1 := hR.val id v (.held v) hv'
    have hq' : (id, q.2) ∈ s.A := by rw [← hq1]; exact hq
    have e2 := hR.val id q.2 (.held v) hq'
    rw [e1] at e2
    injection e2 with e2
    rw [e2, hv]
  obtain ⟨k, n, b, hrd⟩ := hrd
  have HRD := Lib.hid hrd
  have HP := Lib.hid h
  have HA := Lib.hid hA
  have HM : Hid (decide (id ∈ s.A.map (·.1)) = true) := Lib.hid (decide_eq_true hm)
  clear hrd h hA hm h2 hp
  go_enter Tryz.func35, Tryz.ntmps35
  go_wp2_with fail
  refine HRD.out.mono ?_
  rintro e w1 ⟨rfl, hb1⟩
  have hal : Below w1.heap.size w1 (w1.alloc (.cells #[.int .i64 k, .int .i64 n, .string b] 67)) := (Below.refl _ w1).alloc (Nat.le_refl _) _
  have hb2 : Below w.heap.size w (w1.alloc (.cells #[.int .i64 k, .int .i64 n, .string b] 67)) := hb1.trans (hal.mono hb1.size)
  have hP2 := HP.out.below hb2
  have HP2 := Lib.hid hP2
  have HS2 : Hid (Step U U w (w1.alloc (.cells #[.int .i64 k, .int .i64 n, .string b] 67))) := Lib.hid (Step.still hb2)
  have HOW := Lib.hid (pg_own id hP2 HA.out hid)
  rw [HM.out] at HOW
  unfold pgv
  clear hb1 hal hb2 hP2
  go_wp2_with fail
  refine HOW.out.mono ?_
  rintro e w3 ⟨rfl, hb3⟩
  have hP3 := HP2.out.below hb3
  have hS3 := HS2.out.trans (Step.still hb3)
  obtain ⟨w4, hdl, U4, hP4, hS4⟩ := made_delete hP3 id hid 0
  have c5 := hP3.cells.c5
  have c7 : w4.cell? ⟨pb, 7, none⟩ = some (.map (some s.bw)) := hP4.cells.c7
  obtain ⟨w5, hup, U5, hP5, hS5⟩ := was_store hP4 id hid hn
  have hup' : (Instr.mapUpdate 103 (.map (some s.bw)) (.int .i64 id) (.agg #[])).run Tryz.prog w4 = .ok () w5 := hup
  have HBF : Hid (id < (s.base : Int) → Calls Tryz.prog 113 #[.pointer (some ⟨pb, 0, none⟩), .int .i64 id] w5 fun e w' => e = .returned (.tuple #[]) ∧ ∃ s' U', DropO s id s' ∧ Pg pb base s' U' w' ∧ Step U U' w w') := Lib.hid (fun hlt => by
    refine (pg_back_free id hP5 hlt hl).mono ?_
    rintro e w' ⟨he, l', U', hp, hP', hS'⟩
    exact ⟨he, _, U', .inl ⟨hlt, l', hp, rfl⟩, hP', ((hS3.trans hS4).trans hS5).trans hS'⟩)
  have HBS : Hid ((s.base : Int) ≤ id → Calls Tryz.prog 113 #[.pointer (some ⟨pb, 0, none⟩), .int .i64 id] w5 fun e w' => e = .returned (.tuple #[]) ∧ ∃ s' U', DropO s id s' ∧ Pg pb base s' U' w' ∧ Step U U' w w') := Lib.hid (fun hge => by
    refine (pg_back_spare id hP5 hge hsl).mono ?_
    rintro e w' ⟨he, l', U', hp, hP', hS'⟩
    exact ⟨he, _, U', .inr ⟨hge, l', hp, rfl⟩, hP', ((hS3.trans hS4).trans hS5).trans hS'⟩)
  have HBK : Hid (Calls Tryz.prog 113 #[.pointer (some ⟨pb, 0, none⟩), .int .i64 id] w5 fun e w' => e = .returned (.tuple #[]) ∧ ∃ s' U', DropO s id s' ∧ Pg pb base s' U' w' ∧ Step U U' w w') := Lib.hid (by
    by_cases hlt : id < (s.base : Int)
    · exact HBF.out hlt
    · exact HBS.out (by omega))
  clear hP3 hS3 hP4 hS4 hup hP5 hS5 hb3 HBF HBS hl hsl hn
  go_wp2_with fail
  refine HBK.out.mono ?_
  rintro e w6 ⟨rfl, hE⟩
  have HE := Lib.hid hE
  clear hE
  go_wp2
  go_ret
  exact ⟨rfl, HE.out⟩
end
end Go.Proofs.YtlocadmiomglaaaGreatDoor
