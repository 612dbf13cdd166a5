/- Merged texts: Tw1 Tw2 Tw3 Tw4. -/
import Derived.Test.YtaodldagmmephaaGreatB3
import Derived.Test.YtaodldagmmephaaGreatE1
import Derived.Test.YtaodldagmmephaaGreatE3
import Derived.Test.YtaodldagmmephaaGreatA0
/- raft: Compact. -/
namespace Go.Proofs.YtaodldagmmephaaGreat
open Go.RowKit Go.Maps
namespace RF
section
variable {rb base : Nat} {s : RS} {h : Hd} {w : World} {M : Int} {N : Nat}
/-- The members as of the base are turned: to a row that is no part of the core yet. -/
theorem Rf.resnap2 (H : Rf rb base s h w) {s' : RS} {vv : Value} {w' : World} (hF : Fr (fun k => k = rb) w w') (hc : CBox rb (cells s' { h with sv := vv }) w') (ho : w'.ownsRow base 3 1 vv s'.snap.length (rowOf ncells s'.snap)) (hl : ∀ k, vv.ownBlock = some k → ∀ q, ¬ part rb h q k)
    (e1 : s'.b = s.b) (e2 : s'.t = s.t) (e3 : s'.l = s.l) (e4 : s'.votes = s.votes) (e5 : s'.ps = s.ps) (e7 : s'.out.ms = s.out.ms) (e8 : s'.out.nd = s.out.nd) : Rf rb base s' { h with sv := vv } w' := by
  refine H.upd (fun p => p = .core ∨ p = .snap) (fun p k => p = .snap) hF (fun k hk p hp => .inl (H.dis _ _ k hp hk)) ?_ ?_ ?_ (fun p q k a b => a.trans b.symm)
  · rintro p (rfl | rfl)
    · exact ⟨hc.1, hc.2.1, (H.all .core).2.2⟩
    · exact ho
  · intro p hp hh
    cases p with
    | core => exact absurd (.inl rfl) hp
    | snap => exact absurd (.inr rfl) hp
    | log => show Lg h.xb base s'.b s'.t h.lv s'.l w'; rw [e1, e2, e3]; exact hh
    | votes => show World.ownsRow w' base 3 1 h.vv s'.votes.length (rowOf ncells s'.votes); rw [e4]; exact hh
    | map => exact hh
    | peers => exact ⟨hh.1, by rw [e5]; exact hh.2.1, hh.2.2⟩
    | msgs => exact ⟨hh.1, by rw [e7]; exact hh.2⟩
    | ents => exact hh
    | need => show World.ownsRow w' base 3 1 h.nv s'.out.nd.length (rowOf ncells s'.out.nd); rw [e8]; exact hh
  · intro p k hk
    cases p with
    | snap => exact .inr ⟨rfl, hl k hk⟩
    | core => exact .inl hk
    | log => exact .inl hk
    | votes => exact .inl hk
    | map => exact .inl hk
    | peers => exact .inl hk
    | msgs => exact .inl hk
    | ents => exact .inl hk
    | need => exact .inl hk
theorem RB.compact (B : RB M N s) (lim : Int) : RB M N ((s.compact lim).getD s) := by
  unfold RS.compact
  split
  · exact B
  · rename_i hlt
    cases hcs : compS s.b s.t s.l lim with
    | none => exact B
    | some tt =>
      obtain ⟨g1, g2, g3, g4⟩ := comp_some B.log hcs
      have hc := B.commit
      refine ⟨B.id, g1, ?_, B.big, ?_, B.low, fun e he => B.da e (List.mem_of_mem_drop he), B.mem lim, B.ps, B.nd, B.term, B.round, B.commit, ?_⟩
      · show (lastS lim tt (s.l.drop (lim - s.b).toNat)).1 ≤ M
        rw [g4]
        exact B.top
      · show (s.l.drop (lim - s.b).toNat).length ≤ N
        rw [List.length_drop]
        have := B.few
        omega
      · show (lastS lim tt (s.l.drop (lim - s.b).toNat)).2 ≤ s.term
        rw [g4]
        exact B.ltm
theorem rf_members2 (lim : Int) (H : Rf rb base s h w) (hd : ∀ e ∈ s.l, e.da.size ≤ 2000000) : Calls Tryz.prog 86 #[.pointer (some ⟨rb, 0, none⟩), .int .i64 lim] w fun e w' => ∃ v', e = .returned (.tuple #[v', .int .i64 (s.mem lim).2]) ∧ w'.ownsRow base 3 1 v' (s.mem lim).1.length (rowOf ncells (s.mem lim).1) ∧ Below w.heap.size w w' ∧ ((∀ g, v'.ownBlock = some g → w.heap.size ≤ g) ∨ v' = h.sv ∧ (s.mem lim).1 = s.snap) := by
  have c := H.cell 10 rfl
  have HL := Lib.hid (lg_members lim (H.all .log) hd)
  have HH := Lib.hid H
  have HBS := Lib.hid H.bs
  unfold RS.mem
  generalize lmemV s.l lim = x at *
  obtain ⟨m, at'⟩ := x
  dsimp only at HL ⊢
  clear H hd
  by_cases hp : 0 < at'
  · rw [if_pos hp]
    have d1 : decide (0 < at') = true := decide_eq_true hp
    go_enter Tryz.func86, Tryz.ntmps86
    go_wp2_with fail
    with_reducible refine (HL.out).mono ?_
    rintro e w1 ⟨v1, rfl, ho1, hb1⟩
    obtain ⟨p1, c1, hv1⟩ := owns_slice ho1
    subst hv1
    have HB1 := Lib.hid hb1
    have HO1 := Lib.hid (owns_lowE ho1 HBS.out)
    have HNW := Lib.hid (fun g hg => (ho1.lt g hg).1)
    clear hb1 HL ho1 hp
    go_wp2
    go_ret2
    exact ⟨_, rfl, HO1.out, HB1.out, .inl HNW.out⟩
  · rw [if_neg hp]
    have d1 : decide (0 < at') = false := decide_eq_false hp
    have HO := Lib.hid (HH.out.all .snap)
    obtain ⟨p0, c0, hv0⟩ := owns_slice (HH.out.all .snap)
    have h9 := HH.out.q 9 rfl
    rw [hv0] at h9
    have HV := Lib.hid hv0
    have HBA := Lib.hid (fun w1 (hb : Below w.heap.size w w1) => rf_base (HH.out.below hb))
    go_enter Tryz.func86, Tryz.ntmps86
    go_wp2_with fail
    with_reducible refine (HL.out).mono ?_
    rintro e w1 ⟨v1, rfl, ho1, hb1⟩
    obtain ⟨p1, c1, hv1⟩ := owns_slice ho1
    subst hv1
    have HB1 := Lib.hid hb1
    have HBL : Hid (∀ q : Later w1, Calls Tryz.prog 52 #[.pointer (some ⟨rb, 0, none⟩)] q.1 fun e w' => e = .returned (.int .i64 s.b) ∧ Below q.1.heap.size q.1 w') := Lib.hid (fun q => HBA.out q.1 (HB1.out.trans (q.2.mono HB1.out.size)))
    have r9 : ∀ q : Later w1, q.1.cell? ⟨rb, 9, none⟩ = some (.slice p0 s.snap.length c0) := fun q => h9 ⟨q.1, HB1.out.trans (q.2.mono HB1.out.size)⟩
    clear hb1 HL ho1 hp h9 hv0
    go_wp2_with fail
    refine wp_region_later (by kernel_rfl) (by kernel_rfl) ?_
    repeat (go_big_quiet_step ((go_at_call 52; exact Calls.later_of (HBL.out _))))
    refine wpQuiet_nil ?_
    intro w3 hw'
    obtain ⟨⟨wq, hq⟩, hw''⟩ := hw'
    have hwe : w3 = wq := hw''
    clear hw''
    subst hwe
    have HB3 : Hid (Below w.heap.size w w3) := Lib.hid (HB1.out.trans (hq.mono HB1.out.size))
    clear r9 hq
    go_wp2
    go_ret2
    exact ⟨_, rfl, (by rw [← HV.out]; exact (Fr.of_all (S := fun _ => False) HB3.out).owns HO.out (fun _ _ h => h)), HB3.out, .inr ⟨HV.out.symm, by trivial⟩⟩
/-- What Compact leaves. -/
def CompAns (rb base : Nat) (s : RS) (h : Hd) (lim : Int) (w : World) (e : Ending) (w' : World) : Prop :=
  e = .returned (.bool (s.compact lim).isSome) ∧ ∃ h', Rf rb base ((s.compact lim).getD s) h' w' ∧ PS rb h h' w w' ∧ h'.ov = h.ov ∧ h'.mh = h.mh ∧ h'.nv = h.nv
set_option maxHeartbeats 2000000 in
set_option maxRecDepth 100000 in
theorem rf_compact (lim : Int) (H : Rf rb base s h w) (B : RB M N s) : Calls Tryz.prog 38 #[.pointer (some ⟨rb, 0, none⟩), .int .i64 lim] w (CompAns rb base s h lim w) := by
  have HH := Lib.hid H
  have HBB := Lib.hid B
  have hrl := H.rlt
  have c5 := H.cell 5 rfl
  have HNO := Lib.hid (rf_none H)
  have HCE : Hid (s.compact lim = if s.commit < lim then none else (compS s.b s.t s.l lim).map fun tt => { s with snap := (s.mem lim).1, b := lim, t := tt, l := s.l.drop (lim - s.b).toNat }) := Lib.hid rfl
  clear H B
  unfold CompAns
  go_enter Tryz.func38, Tryz.ntmps38
  by_cases hlt : s.commit < lim
  case pos =>
    have d1 : decide (s.commit < lim) = true := decide_eq_true hlt
    rw [HCE.out, if_pos hlt]
    clear hlt
    go_wp2_with (with_reducible refine HNO.out.mono ?_; rintro e W1 ⟨rfl, hw1⟩; have hw1 := hw1.symm; subst hw1)
    go_ret
    exact ⟨rfl, h, HH.out, PS.refl _ _, rfl, rfl, rfl⟩
  case neg =>
  have d1 : decide (s.commit < lim) = false := decide_eq_false hlt
  rw [if_neg hlt] at HCE
  have hto : lim ≤ 4611686018427387904 := by have := HBB.out.commit; have := HBB.out.big; omega
  have hnl : lim ≤ s.commit := by omega
  clear hlt
  have HMB := Lib.hid (rf_members2 lim HH.out HBB.out.da)
  go_upto_region 3 with (with_reducible refine HNO.out.mono ?_; rintro e W1 ⟨rfl, hw1⟩; have hw1 := hw1.symm; subst hw1)
  go_wp2_with fail
  with_reducible refine (HMB.out).mono ?_
  rintro e W1 ⟨v1, rfl, ho1, hb1, hor⟩
  obtain ⟨p1, k1, hv1⟩ := owns_slice ho1
  subst hv1
  have HR1 := Lib.hid (HH.out.below hb1)
  have HO1 := Lib.hid ho1
  have HB1 := Lib.hid hb1
  have HOR := Lib.hid hor
  clear HMB ho1 hb1 hor HNO c5
  generalize hml : (s.mem lim).1.length = ml at *
  generalize (s.mem lim).2 = ma at *
  have HML := Lib.hid hml
  clear hml
  have q10 : ∀ q : Later W1, q.1.cell? ⟨rb, 10, none⟩ = some (.pointer (some ⟨h.xb, 0, none⟩)) := HR1.out.q 10 rfl
  have c10 := HR1.out.cell 10 rfl
  cases hcs : compS s.b s.t s.l lim with
  | none =>
    have HCP := Lib.hid (lg_compact_no lim (HR1.out.all .log) hto hcs)
    rw [hcs] at HCE
    have HCE2 : Hid (s.compact lim = none) := Lib.hid HCE.out
    clear hcs HCE
    go_wp2_with fail
    with_reducible refine (HCP.out).mono ?_
    rintro e W2 ⟨rfl, hb2⟩
    have HB2 := Lib.hid (HB1.out.trans (hb2.mono HB1.out.size))
    clear hb2
    go_wp2
    go_ret
    rw [HCE2.out]
    exact ⟨rfl, h, HH.out.below HB2.out, PS.still HB2.out, rfl, rfl, rfl⟩
  | some tt =>
    have HCP := Lib.hid (lg_compact lim (HR1.out.all .log) hto hcs)
    rw [hcs] at HCE
    have HCE2 : Hid (s.compact lim = some { s with snap := (s.mem lim).1, b := lim, t := tt, l := s.l.drop (lim - s.b).toNat }) := Lib.hid HCE.out
    clear hcs HCE
    go_wp2_with fail
    with_reducible refine (HCP.out).mono ?_
    rintro e W2 ⟨rfl, v4, hl4, hf4, hv4⟩
    have hf34 : Fr (lgF h.xb h.lv) W1 W2 := hf4.mono (T := lgF h.xb h.lv) (fun _ _ e => .inl e)
    have hlg := HR1.out.logged hl4 hf34 (.inr hv4)
    have HR2 := Lib.hid hlg.1
    have HP2 := Lib.hid hlg.2
    have HO2 : Hid (W2.ownsRow base 3 1 (.slice p1 ml k1) ml (rowOf ncells (s.mem lim).1)) := Lib.hid (by
      refine hf34.owns HO1.out (fun g hg hl => ?_)
      rcases HOR.out with hn | ⟨hn, _⟩
      · have h1 := hn g hg
        have h2 := (HH.out.lt ⟨.log, hl⟩).2
        omega
      · rw [hn] at hg
        have := HH.out.dis .snap .log g hg hl
        cases this)
    have c9 : W2.cell? ⟨rb, 9, none⟩ = some h.sv := HR2.out.cell 9 rfl
    have f9 := HR2.out.fz 9 (by omega)
    clear hl4 hf4 hv4 hf34 hlg HCP q10 c10
    have HF3 := Lib.hid (fr_core W2 rb 9 (.slice p1 ml k1))
    have HRF : Hid (∃ h', Rf rb base { s with snap := (s.mem lim).1, b := lim, t := tt, l := s.l.drop (lim - s.b).toNat } h' (W2.setCell ⟨rb, 9, none⟩ (.slice p1 ml k1)) ∧ PS rb h h' w (W2.setCell ⟨rb, 9, none⟩ (.slice p1 ml k1)) ∧ h'.ov = h.ov ∧ h'.mh = h.mh ∧ h'.nv = h.nv) := Lib.hid (by
      have hcb := HR2.out.cbox.set 9 (.slice p1 ml k1) (by show 9 < 17; omega)
      have hp3 : PS rb h { h with lv := v4 } w W2 := (PS.still HB1.out).trans HP2.out
      rcases HOR.out with hn | ⟨hn, hsn⟩
      · have hr := HR2.out.resnap2 (s' := { s with snap := (s.mem lim).1, b := lim, t := tt, l := s.l.drop (lim - s.b).toNat }) (vv := .slice p1 ml k1) (w' := W2.setCell ⟨rb, 9, none⟩ (.slice p1 ml k1)) HF3.out hcb (by
          show World.ownsRow _ base 3 1 (.slice p1 ml k1) (s.mem lim).1.length _
          rw [HML.out]
          refine HF3.out.owns HO2.out (fun g hg e => ?_)
          have h1 := hn g hg
          omega) (fun k hk q hq => by
          have h1 := hn k hk
          have h9 := (HO1.out.lt k hk).2
          rcases HP2.out.2 q k hq with e | e
          · have := (HH.out.lt ⟨q, e⟩).2
            omega
          · omega) rfl rfl rfl rfl rfl rfl rfl
        refine ⟨_, hr, ⟨Fr.trans hp3.1 (HF3.out.mono (T := Fo rb h) (fun _ _ e => ⟨.core, e⟩)) (fun i hi _ => hi), fun q k hq => ?_⟩, rfl, rfl, rfl⟩
        cases q with
        | snap => exact .inr (hn k hq)
        | core => exact hp3.2 .core k hq
        | log => exact hp3.2 .log k hq
        | votes => exact hp3.2 .votes k hq
        | map => exact hp3.2 .map k hq
        | peers => exact hp3.2 .peers k hq
        | msgs => exact hp3.2 .msgs k hq
        | ents => exact hp3.2 .ents k hq
        | need => exact hp3.2 .need k hq
      · have hr := HR2.out.put { s with snap := (s.mem lim).1, b := lim, t := tt, l := s.l.drop (lim - s.b).toNat } 9 (.slice p1 ml k1) (by omega) (by rw [hn]; rfl) (by rw [hsn]; exact same_refl _)
        exact ⟨_, hr, ⟨Fr.trans hp3.1 (HF3.out.mono (T := Fo rb h) (fun _ _ e => ⟨.core, e⟩)) (fun i hi _ => hi), hp3.2⟩, rfl, rfl, rfl⟩)
    clear HR2 HP2 HO2 HF3
    go_wp2
    go_ret
    rw [HCE2.out]
    exact ⟨rfl, HRF.out⟩
end
end RF
end Go.Proofs.YtaodldagmmephaaGreat

/- arboretumlaw20.hear: Compact too; the whole. -/
namespace Go.Proofs.YtaodldagmmephaaGreat
open Go.RowKit Go.Maps
namespace RF
/-- What a core makes of a step of the laws. -/
def RS.hearA (s : RS) (o : OpL) (ms : List Int) : RS := if o.kd = 6 then (s.compact o.a).getD s else s.hearS o ms
theorem told_zero {s : RS} (ho : s.out = ot0) : s.told = ot0 := by
  unfold RS.told
  rw [ho]
  have e : CL.nrm [] = [] := List.eq_nil_of_length_eq_zero (Nat.le_zero.1 (CL.nrm_length []))
  show ({ ot0 with nd := CL.nrm [] } : Ot) = ot0
  rw [e]
  rfl
theorem compact_out (s : RS) (lim : Int) : ((s.compact lim).getD s).out = s.out ∧ ((s.compact lim).getD s).elapsed = s.elapsed ∧ ((s.compact lim).getD s).votes = s.votes ∧ ((s.compact lim).getD s).id = s.id := by
  unfold RS.compact
  split
  · exact ⟨rfl, rfl, rfl, rfl⟩
  · cases compS s.b s.t s.l lim <;> exact ⟨rfl, rfl, rfl, rfl⟩
section
variable {rb base : Nat} {s : RS} {h : Hd} {w : World} {M : Int} {N : Nat}
/-- An answer that tells nothing. -/
theorem Ans.quiet {s' : RS} {h' : Hd} {w' : World} (H : Rf rb base s' h' w') (hc : h'.clean) (ho : s'.out = ot0) (hp : PS rb h h' w w') : Ans rb base s' h w (.returned outZ) w' := by
  refine ⟨_, h', rfl, hc, by rw [fin_of ho]; exact H, hp, .slice none 0 0, .slice none 0 0, [], ?_, ?_, World.ownsRow_nil _ _ _ _, fun x hx => absurd hx List.not_mem_nil, ?_, ?_⟩
  · rw [told_zero ho]; rfl
  · rw [told_zero ho]; rfl
  · rw [told_zero ho]; exact World.ownsRow_nil _ _ _ _
  · rintro k (e | ⟨x, hx, _⟩ | e)
    · cases e
    · exact absurd hx List.not_mem_nil
    · cases e
set_option maxHeartbeats 2000000 in
set_option maxRecDepth 100000 in
theorem rf_hear6 (o : OpL) (ms : List Int) (H : Rf rb base s h w) (B : RB M N s) (hM : M + (max o.m.en.length 1 : Nat) < 4503599627370496) (hN : N + max o.m.en.length 1 ≤ 10000) (hvt : s.votes.length ≤ 900) (hcl : h.clean) (hout : s.out = ot0) (hel : 0 ≤ s.elapsed ∧ s.elapsed ≤ 4611686018427387904)
    (E : EnsAt rb h o.m o.x w) (hi : (i64ok o.a ∧ i64ok o.b ∧ i64ok o.six) ∧ i64ok o.m.ix) (hds : o.st.size ≤ 3000) (hsx : o.six ≤ M) (HMS : RdI w w.heap.size o.sp o.sn ms) (hmn : ms.length = o.sn) (hoff : 0 < o.sn → ∀ g k, o.sp = some ⟨g, k, none⟩ → ¬ Fo rb h g) (hk6 : o.kd = 6) :
    Calls Tryz.prog 35 #[.pointer (some ⟨rb, 0, none⟩), .agg #[.int .i64 o.kd, .int .i64 o.a, .int .i64 o.b, .int .i64 o.m.kd, .int .i64 o.m.fr, .int .i64 o.m.tq, .int .i64 o.m.tm, .int .i64 o.m.ix, .int .i64 o.m.lt, .int .i64 o.m.cm, .int .i64 o.m.rd, .bool o.m.ok, .bool o.x.dn, .slice o.x.pe o.m.en.length o.x.ce, .slice o.x.pm o.x.nm o.x.cm, .int .i64 o.x.of, .slice o.x.pp o.x.np o.x.cp, .string o.st, .slice o.lp o.ln o.lc, .int .i64 o.six, .int .i64 o.stm, .slice o.sp o.sn o.sc]] w (Ans rb base ((s.compact o.a).getD s) h w) := by
  have hb0 : Below w.heap.size w (w.alloc (.cells #[.int .i64 o.kd, .int .i64 o.a, .int .i64 o.b, .int .i64 o.m.kd, .int .i64 o.m.fr, .int .i64 o.m.tq, .int .i64 o.m.tm, .int .i64 o.m.ix, .int .i64 o.m.lt, .int .i64 o.m.cm, .int .i64 o.m.rd, .bool o.m.ok, .bool o.x.dn, .slice o.x.pe o.m.en.length o.x.ce, .slice o.x.pm o.x.nm o.x.cm, .int .i64 o.x.of, .slice o.x.pp o.x.np o.x.cp, .string o.st, .slice o.lp o.ln o.lc, .int .i64 o.six, .int .i64 o.stm, .slice o.sp o.sn o.sc] 83)) := (Below.refl _ w).alloc (Nat.le_refl _) _
  have X0 := CBox.fresh w [.int .i64 o.kd, .int .i64 o.a, .int .i64 o.b, .int .i64 o.m.kd, .int .i64 o.m.fr, .int .i64 o.m.tq, .int .i64 o.m.tm, .int .i64 o.m.ix, .int .i64 o.m.lt, .int .i64 o.m.cm, .int .i64 o.m.rd, .bool o.m.ok, .bool o.x.dn, .slice o.x.pe o.m.en.length o.x.ce, .slice o.x.pm o.x.nm o.x.cm, .int .i64 o.x.of, .slice o.x.pp o.x.np o.x.cp, .string o.st, .slice o.lp o.ln o.lc, .int .i64 o.six, .int .i64 o.stm, .slice o.sp o.sn o.sc] 83
  have hs0 : (w.alloc (.cells #[.int .i64 o.kd, .int .i64 o.a, .int .i64 o.b, .int .i64 o.m.kd, .int .i64 o.m.fr, .int .i64 o.m.tq, .int .i64 o.m.tm, .int .i64 o.m.ix, .int .i64 o.m.lt, .int .i64 o.m.cm, .int .i64 o.m.rd, .bool o.m.ok, .bool o.x.dn, .slice o.x.pe o.m.en.length o.x.ce, .slice o.x.pm o.x.nm o.x.cm, .int .i64 o.x.of, .slice o.x.pp o.x.np o.x.cp, .string o.st, .slice o.lp o.ln o.lc, .int .i64 o.six, .int .i64 o.stm, .slice o.sp o.sn o.sc] 83)).heap.size = w.heap.size + 1 := World.size_alloc _ _
  have hb1 : Below (w.alloc (.cells #[.int .i64 o.kd, .int .i64 o.a, .int .i64 o.b, .int .i64 o.m.kd, .int .i64 o.m.fr, .int .i64 o.m.tq, .int .i64 o.m.tm, .int .i64 o.m.ix, .int .i64 o.m.lt, .int .i64 o.m.cm, .int .i64 o.m.rd, .bool o.m.ok, .bool o.x.dn, .slice o.x.pe o.m.en.length o.x.ce, .slice o.x.pm o.x.nm o.x.cm, .int .i64 o.x.of, .slice o.x.pp o.x.np o.x.cp, .string o.st, .slice o.lp o.ln o.lc, .int .i64 o.six, .int .i64 o.stm, .slice o.sp o.sn o.sc] 83)).heap.size (w.alloc (.cells #[.int .i64 o.kd, .int .i64 o.a, .int .i64 o.b, .int .i64 o.m.kd, .int .i64 o.m.fr, .int .i64 o.m.tq, .int .i64 o.m.tm, .int .i64 o.m.ix, .int .i64 o.m.lt, .int .i64 o.m.cm, .int .i64 o.m.rd, .bool o.m.ok, .bool o.x.dn, .slice o.x.pe o.m.en.length o.x.ce, .slice o.x.pm o.x.nm o.x.cm, .int .i64 o.x.of, .slice o.x.pp o.x.np o.x.cp, .string o.st, .slice o.lp o.ln o.lc, .int .i64 o.six, .int .i64 o.stm, .slice o.sp o.sn o.sc] 83)) ((w.alloc (.cells #[.int .i64 o.kd, .int .i64 o.a, .int .i64 o.b, .int .i64 o.m.kd, .int .i64 o.m.fr, .int .i64 o.m.tq, .int .i64 o.m.tm, .int .i64 o.m.ix, .int .i64 o.m.lt, .int .i64 o.m.cm, .int .i64 o.m.rd, .bool o.m.ok, .bool o.x.dn, .slice o.x.pe o.m.en.length o.x.ce, .slice o.x.pm o.x.nm o.x.cm, .int .i64 o.x.of, .slice o.x.pp o.x.np o.x.cp, .string o.st, .slice o.lp o.ln o.lc, .int .i64 o.six, .int .i64 o.stm, .slice o.sp o.sn o.sc] 83)).alloc (.cells #[.slice none 0 0, .bool false, .int .i64 0, .slice none 0 0] 37)) := (Below.refl _ _).alloc (Nat.le_refl _) _
  have X1 := CBox.fresh (w.alloc (.cells #[.int .i64 o.kd, .int .i64 o.a, .int .i64 o.b, .int .i64 o.m.kd, .int .i64 o.m.fr, .int .i64 o.m.tq, .int .i64 o.m.tm, .int .i64 o.m.ix, .int .i64 o.m.lt, .int .i64 o.m.cm, .int .i64 o.m.rd, .bool o.m.ok, .bool o.x.dn, .slice o.x.pe o.m.en.length o.x.ce, .slice o.x.pm o.x.nm o.x.cm, .int .i64 o.x.of, .slice o.x.pp o.x.np o.x.cp, .string o.st, .slice o.lp o.ln o.lc, .int .i64 o.six, .int .i64 o.stm, .slice o.sp o.sn o.sc] 83)) [.slice none 0 0, .bool false, .int .i64 0, .slice none 0 0] 37
  have hs1 : ((w.alloc (.cells #[.int .i64 o.kd, .int .i64 o.a, .int .i64 o.b, .int .i64 o.m.kd, .int .i64 o.m.fr, .int .i64 o.m.tq, .int .i64 o.m.tm, .int .i64 o.m.ix, .int .i64 o.m.lt, .int .i64 o.m.cm, .int .i64 o.m.rd, .bool o.m.ok, .bool o.x.dn, .slice o.x.pe o.m.en.length o.x.ce, .slice o.x.pm o.x.nm o.x.cm, .int .i64 o.x.of, .slice o.x.pp o.x.np o.x.cp, .string o.st, .slice o.lp o.ln o.lc, .int .i64 o.six, .int .i64 o.stm, .slice o.sp o.sn o.sc] 83)).alloc (.cells #[.slice none 0 0, .bool false, .int .i64 0, .slice none 0 0] 37)).heap.size = (w.alloc (.cells #[.int .i64 o.kd, .int .i64 o.a, .int .i64 o.b, .int .i64 o.m.kd, .int .i64 o.m.fr, .int .i64 o.m.tq, .int .i64 o.m.tm, .int .i64 o.m.ix, .int .i64 o.m.lt, .int .i64 o.m.cm, .int .i64 o.m.rd, .bool o.m.ok, .bool o.x.dn, .slice o.x.pe o.m.en.length o.x.ce, .slice o.x.pm o.x.nm o.x.cm, .int .i64 o.x.of, .slice o.x.pp o.x.np o.x.cp, .string o.st, .slice o.lp o.ln o.lc, .int .i64 o.six, .int .i64 o.stm, .slice o.sp o.sn o.sc] 83)).heap.size + 1 := World.size_alloc _ _
  have HH := Lib.hid H
  have hrl := H.rlt
  have HLT := Lib.hid (fun k (hk : Fo rb h k) => (H.lt hk).2)
  have HBB := Lib.hid B
  have HEE := Lib.hid E
  have HCL := Lib.hid hcl
  have HOU := Lib.hid hout
  have HMS1 := Lib.hid HMS
  have HOF := Lib.hid hoff
  have HI := Lib.hid hi
  have HK6 := Lib.hid hk6
  clear H B hcl E hout HMS hoff hi hk6
  go_enter Tryz.func35, Tryz.ntmps35
  go_upto_region 1 with fail
  dsimp only [List.toArray] at X0 X1
  generalize w.alloc (.cells #[.int .i64 o.kd, .int .i64 o.a, .int .i64 o.b, .int .i64 o.m.kd, .int .i64 o.m.fr, .int .i64 o.m.tq, .int .i64 o.m.tm, .int .i64 o.m.ix, .int .i64 o.m.lt, .int .i64 o.m.cm, .int .i64 o.m.rd, .bool o.m.ok, .bool o.x.dn, .slice o.x.pe o.m.en.length o.x.ce, .slice o.x.pm o.x.nm o.x.cm, .int .i64 o.x.of, .slice o.x.pp o.x.np o.x.cp, .string o.st, .slice o.lp o.ln o.lc, .int .i64 o.six, .int .i64 o.stm, .slice o.sp o.sn o.sc] 83) = Wa at *
  have X0 := X0.below hb1
  generalize Wa.alloc (.cells #[.slice none 0 0, .bool false, .int .i64 0, .slice none 0 0] 37) = W1 at *
  have HFIN : Hid (∀ (y : RS) (e : Ending) (w' W' : World), Ans rb base y h W1 e w' → Fr (fun k => k = Wa.heap.size) w' W' → Ans rb base y h w e W') := Lib.hid (fun y e w' W' hA hF => (Ans.boxed (HH.out.below hb0) hA hb1 hs1 hF).lower hb0)
  have HB1 := Lib.hid (hb0.trans (hb1.mono hb0.size))
  obtain ⟨b1, hb1e⟩ : ∃ b1, b1 = w.heap.size := ⟨_, rfl⟩
  obtain ⟨b2, hb2e⟩ : ∃ b2, b2 = Wa.heap.size := ⟨_, rfl⟩
  rw [← hb1e] at X0 hrl ⊢
  rw [← hb2e] at X1 HFIN
  have hb2' : b1 + 1 = b2 := by omega
  rw [hb2']
  have HE12 : Hid (b1 = w.heap.size ∧ b2 = w.heap.size + 1 ∧ b2 < W1.heap.size) := Lib.hid ⟨hb1e, by omega, by omega⟩
  have HNF : Hid (¬ Fo rb h b2) := Lib.hid (fun e => by have := HLT.out _ e; omega)
  have HX1 := Lib.hid X0
  have HX2 := Lib.hid X1
  have HR1 := Lib.hid (HH.out.below HB1.out)
  have HE1 := Lib.hid (HEE.out.below HB1.out)
  have HM1 := Lib.hid ((HMS1.out.below HB1.out).more HB1.out.size)
  clear X0 X1 hb0 hb1 hs0 hs1 hb1e hb2e HEE HMS1
  have a0 : W1.cell? ⟨b1, 0, none⟩ = some (.int .i64 o.kd) := HX1.out.1 0 _ rfl
  rw [HK6.out] at a0
  have a1 : W1.cell? ⟨b1, 1, none⟩ = some (.int .i64 o.a) := HX1.out.1 1 _ rfl
  have HC := Lib.hid (rf_compact o.a HR1.out HBB.out)
  have HCO := Lib.hid (compact_out s o.a).1
  unfold CompAns at HC
  generalize (s.compact o.a).isSome = ib at *
  generalize (s.compact o.a).getD s = z at *
  go_wp2_with fail
  with_reducible refine (HC.out).mono ?_
  rintro e w9 ⟨rfl, h9, hr9, hp9, e1, e2, e3⟩
  have HA : Hid (Ans rb base z h W1 (.returned outZ) w9) := Lib.hid (Ans.quiet hr9 ⟨e1.trans HCL.out.1, e2.trans HCL.out.2.1, e3.trans HCL.out.2.2⟩ (HCO.out.trans HOU.out) hp9)
  have hx9 : CBox b2 [.slice none 0 0, .bool false, .int .i64 0, .slice none 0 0] w9 := HX2.out.keep hp9.1 HNF.out
  have t0 := hx9.1 0 _ rfl
  have t1 := hx9.1 1 _ rfl
  have t2 := hx9.1 2 _ rfl
  have t3 := hx9.1 3 _ rfl
  have u0 := hx9.2.1 0 (by show 0 < 4; omega)
  have u1 := hx9.2.1 1 (by show 1 < 4; omega)
  have u2 := hx9.2.1 2 (by show 2 < 4; omega)
  have u3 := hx9.2.1 3 (by show 3 < 4; omega)
  clear hr9 hp9 e1 e2 e3 hx9 HC
  go_wp2_with fail
  refine bodyPost_ret (results_cell1 rfl _ _ _ ⟨b2, 0, none⟩ (.agg #[.slice none 0 0, .bool false, .int .i64 0, .slice none 0 0]) rfl (by go_simp)) rfl ?_
  exact HFIN.out _ _ _ _ HA.out (((((Fr.refl (fun k => k = b2) w9).setCell (p := ⟨b2, 0, none⟩) (fun _ => rfl) _).setCell (p := ⟨b2, 1, none⟩) (fun _ => rfl) _).setCell (p := ⟨b2, 2, none⟩) (fun _ => rfl) _ |>.setCell (p := ⟨b2, 3, none⟩) (fun _ => rfl) _))
set_option maxHeartbeats 2000000 in
set_option maxRecDepth 100000 in
theorem rf_hearA (o : OpL) (ms : List Int) (H : Rf rb base s h w) (B : RB M N s) (hM : M + (max o.m.en.length 1 : Nat) < 4503599627370496) (hN : N + max o.m.en.length 1 ≤ 10000) (hvt : s.votes.length ≤ 900) (hcl : h.clean) (hout : s.out = ot0) (hel : 0 ≤ s.elapsed ∧ s.elapsed ≤ 4611686018427387904)
    (E : EnsAt rb h o.m o.x w) (hi : (i64ok o.a ∧ i64ok o.b ∧ i64ok o.six) ∧ i64ok o.m.ix) (hds : o.st.size ≤ 3000) (hsx : o.six ≤ M) (HMS : RdI w w.heap.size o.sp o.sn ms) (hmn : ms.length = o.sn) (hoff : 0 < o.sn → ∀ g k, o.sp = some ⟨g, k, none⟩ → ¬ Fo rb h g) :
    Calls Tryz.prog 35 #[.pointer (some ⟨rb, 0, none⟩), .agg #[.int .i64 o.kd, .int .i64 o.a, .int .i64 o.b, .int .i64 o.m.kd, .int .i64 o.m.fr, .int .i64 o.m.tq, .int .i64 o.m.tm, .int .i64 o.m.ix, .int .i64 o.m.lt, .int .i64 o.m.cm, .int .i64 o.m.rd, .bool o.m.ok, .bool o.x.dn, .slice o.x.pe o.m.en.length o.x.ce, .slice o.x.pm o.x.nm o.x.cm, .int .i64 o.x.of, .slice o.x.pp o.x.np o.x.cp, .string o.st, .slice o.lp o.ln o.lc, .int .i64 o.six, .int .i64 o.stm, .slice o.sp o.sn o.sc]] w (Ans rb base (s.hearA o ms) h w) := by
  unfold RS.hearA
  by_cases hk6 : o.kd = 6
  · rw [if_pos hk6]
    exact rf_hear6 o ms H B hM hN hvt hcl hout hel E hi hds hsx HMS hmn hoff hk6
  · rw [if_neg hk6]
    exact rf_hear o ms H B hM hN hvt hcl hout hel E hi hds hsx HMS hmn hoff hk6
theorem hear_toldA {k : Nat} (T : Th k s) (hk : k < 200) (o : OpL) (ms : List Int) (hen : o.m.en.length ≤ 40) (hda : ∀ e ∈ o.m.en, e.da.size ≤ 12000) (hst : o.st.size ≤ 3000) (hsx : o.six ≤ 1099511627776) : Th (k + 1) (s.hearA o ms).fin ∧ Say (s.hearA o ms) := by
  unfold RS.hearA
  by_cases hk6 : o.kd = 6
  · rw [if_pos hk6]
    have hc := compact_out s o.a
    have hb := T.bd.compact o.a
    refine ⟨⟨(hb.mono (by unfold MB; omega) (by unfold MB; omega) (by unfold NB; omega) (by unfold NB; omega)).fin, rfl, ?_, ?_⟩, Say.em ?_⟩
    · have he := T.ev
      have e1 : ((s.compact o.a).getD s).fin.elapsed = s.elapsed := hc.2.1
      have e2 : ((s.compact o.a).getD s).fin.votes = s.votes := hc.2.2.1
      unfold Ev
      rw [e1, e2]
      exact ⟨he.1, by have := he.2; omega⟩
    · show ((s.compact o.a).getD s).id = 1
      rw [hc.2.2.2]; exact T.id
    · unfold RS.Em
      rw [hc.1, T.out]
      exact ⟨rfl, rfl⟩
  · rw [if_neg hk6]
    have h := hear_told T hk o ms hen hda hst hsx
    exact ⟨h.1, h.2.2.2.1⟩
end
end RF
end Go.Proofs.YtaodldagmmephaaGreat

/- arboretumlaw20.RaftTwins: two cores of one state, what was told by each; SameInts of what is alike. -/
namespace Go.Proofs.YtaodldagmmephaaGreat
open Go.RowKit Go.Maps
namespace RF
theorem own_max {W : World} {base sz n : Nat} {e : TypeId} {v : Value} {xs : List Value} (h : W.ownsRow base e sz v n xs) : n ≤ 9223372036854775807 := by
  rcases h.2 with ⟨_, h0⟩ | ⟨g, cap, cur, _, _, _, h1, h2, _⟩
  · omega
  · unfold maxLen at h2
    omega
/-- Told, in parts. -/
structure TV where
  pq : Option Addr
  cq : Nat
  pn : Option Addr
  cn : Nat
  mh : List (Mg × Value)
def TV.val (t : TV) (o : Ot) : Value := .agg #[.slice t.pq t.mh.length t.cq, .bool o.hd, .int .i64 o.fr, .slice t.pn o.nd.length t.cn]
structure Td (o : Ot) (lo hi : Nat) (t : TV) (W : World) : Prop where
  ms : t.mh.map (·.1) = o.ms
  rm : W.ownsRow lo 48 14 (.slice t.pq t.mh.length t.cq) t.mh.length (rowOf mcells t.mh)
  re : ∀ x ∈ t.mh, W.ownsRow lo 25 4 x.2 x.1.en.length (rowOf ecells x.1.en)
  rn : W.ownsRow lo 3 1 (.slice t.pn o.nd.length t.cn) o.nd.length (rowOf ncells o.nd)
  h1 : ∀ k, (Value.slice t.pq t.mh.length t.cq).ownBlock = some k → k < hi
  h2 : ∀ x ∈ t.mh, ∀ k, x.2.ownBlock = some k → k < hi
  h3 : ∀ k, (Value.slice t.pn o.nd.length t.cn).ownBlock = some k → k < hi
theorem Td.keep {o : Ot} {lo hi : Nat} {t : TV} {W W' : World} {S : Nat → Prop} (T : Td o lo hi t W) (hF : Fr S W W') (hS : ∀ k, lo ≤ k → k < hi → ¬ S k) : Td o lo hi t W' :=
  ⟨T.ms, hF.owns T.rm (fun g e => hS g (T.rm.lt g e).1 (T.h1 g e)), fun x hx => hF.owns (T.re x hx) (fun g e => hS g ((T.re x hx).lt g e).1 (T.h2 x hx g e)), hF.owns T.rn (fun g e => hS g (T.rn.lt g e).1 (T.h3 g e)), T.h1, T.h2, T.h3⟩
theorem Td.below {o : Ot} {lo hi : Nat} {t : TV} {W W' : World} (T : Td o lo hi t W) (hb : Below W.heap.size W W') : Td o lo hi t W' := T.keep (Fr.of_all (S := fun _ => False) hb) (fun _ _ _ h => h)
theorem Td.msgs {z : RS} {lo hi : Nat} {t : TV} {W : World} (T : Td z.told lo hi t W) (hs : Say z) (hd : ∀ e ∈ z.l, e.da.size ≤ 2000000) : MsgsAt t.pq t.mh W :=
  ⟨RdG.of_own T.rm rfl, fun x hx => by
    have hm : x.1 ∈ z.out.ms := by
      have h : x.1 ∈ z.told.ms := by rw [← T.ms]; exact List.mem_map_of_mem hx
      exact h
    have hk := hs.ms _ hm
    refine ⟨?_, fun e he => hd e (hk.sub e he), hk.few.1⟩
    have h1 := T.re x hx
    obtain ⟨pe, ce, he⟩ := owns_slice h1
    rw [he] at h1
    exact ⟨pe, ce, he, RdG.of_own h1 rfl⟩⟩
def zer : List Value := [.slice none 0 0, .bool false, .int .i64 0, .slice none 0 0]
structure St (w : World) (ra Ba rb Bb : Nat) (ha hb : Hd) (sa : RS) (ka : Nat) (sb : RS) (kb : Nat) (o : Ot) (ta tb : Option TV) (b8 b9 : Option Nat) (W : World) : Prop where
  a : Ts w ra Ba sa ha ka W
  b : Ts w rb Bb sb hb kb W
  ap : ∀ x, Fo ra ha x → ¬ Fo rb hb x
  da : ∀ t, ta = some t → ∃ lo hi, hi ≤ W.heap.size ∧ Td o lo hi t W ∧ (tb = none → ∀ x, Fo rb hb x → x < lo) ∧ (∀ b, b8 = some b ∨ b9 = some b → b < lo ∨ hi ≤ b)
  db : ∀ t, tb = some t → ∃ lo hi, hi ≤ W.heap.size ∧ Td o lo hi t W ∧ (∀ b, b8 = some b ∨ b9 = some b → b < lo ∨ hi ≤ b)
  bx : ∀ b, b8 = some b ∨ b9 = some b → CBox b zer W ∧ ¬ Fo ra ha b ∧ ¬ Fo rb hb b ∧ w.heap.size ≤ b
  ne : ∀ b c, b8 = some b → b9 = some c → b ≠ c
section
variable {w : World} {ra Ba rb Bb : Nat} {ha hb : Hd} {sa : RS} {ka : Nat} {sb : RS} {kb : Nat} {o : Ot} {ta tb : Option TV} {b8 b9 : Option Nat} {W W' : World} {e : Ending}
theorem St.callA {z : RS} (S : St w ra Ba rb Bb ha hb sa ka sb kb z.told none none b8 b9 W) (A : Ans ra Ba z ha W e W') {k' : Nat} (ht : Th k' z.fin) :
    ∃ (ha' : Hd) (t : TV), e = .returned (t.val z.told) ∧ St w ra Ba rb Bb ha' hb z.fin k' sb kb z.told (some t) none b8 b9 W' := by
  obtain ⟨v, h', rfl, hc, hr, hp, ov, nv, mh, rfl, h1, h2, h3, h4, _⟩ := A
  obtain ⟨p1, c1, e1⟩ := owns_slice h2
  obtain ⟨p2, c2, e2⟩ := owns_slice h4
  subst e1 e2
  have hTa := S.a.step hc hr hp ht
  refine ⟨h', ⟨p1, c1, p2, c2, mh⟩, rfl, hTa, ⟨S.b.cl, S.b.rf.keep hp.1 (fun k hk hs => S.ap k hs hk), S.b.th, S.b.lo, hTa.bel⟩, fun x ⟨p, hx⟩ hxb => ?_, fun t ht => ?_, fun t ht => (by cases ht), fun b hb' => ?_, S.ne⟩
  · rcases hp.2 p x hx with q | q
    · exact S.ap x ⟨p, q⟩ hxb
    · have := (S.b.rf.lt hxb).2
      omega
  · injection ht with ht
    subst ht
    exact ⟨W.heap.size, W'.heap.size, Nat.le_refl _, ⟨h1, h2, h3, h4, fun k e => (h2.lt k e).2, fun x hx k e => ((h3 x hx).lt k e).2, fun k e => (h4.lt k e).2⟩, fun _ x hx => (S.b.rf.lt hx).2, fun b hb' => .inl (S.bx b hb').1.2.2⟩
  · obtain ⟨q1, q2, q3, q4⟩ := S.bx b hb'
    exact ⟨q1.keep hp.1 q2, hp.off q1.2.2 q2, q3, q4⟩
theorem St.callB {z : RS} {t : TV} (S : St w ra Ba rb Bb ha hb sa ka sb kb z.told (some t) none b8 b9 W) (A : Ans rb Bb z hb W e W') {k' : Nat} (ht : Th k' z.fin) :
    ∃ (hb' : Hd) (u : TV), e = .returned (u.val z.told) ∧ St w ra Ba rb Bb ha hb' sa ka z.fin k' z.told (some t) (some u) b8 b9 W' := by
  obtain ⟨v, h', rfl, hc, hr, hp, ov, nv, mh, rfl, h1, h2, h3, h4, _⟩ := A
  obtain ⟨p1, c1, e1⟩ := owns_slice h2
  obtain ⟨p2, c2, e2⟩ := owns_slice h4
  subst e1 e2
  have hTb := S.b.step hc hr hp ht
  refine ⟨h', ⟨p1, c1, p2, c2, mh⟩, rfl, ⟨S.a.cl, S.a.rf.keep hp.1 (fun k hk hs => S.ap k hk hs), S.a.th, S.a.lo, hTb.bel⟩, hTb, fun x hxa ⟨p, hx⟩ => ?_, fun t' ht => ?_, fun u ht => ?_, fun b hb' => ?_, S.ne⟩
  · rcases hp.2 p x hx with q | q
    · exact S.ap x hxa ⟨p, q⟩
    · have := (S.a.rf.lt hxa).2
      omega
  · obtain ⟨lo, hi, g1, g2, g3, g4⟩ := S.da t' ht
    exact ⟨lo, hi, Nat.le_trans g1 hp.1.size, g2.keep hp.1 (fun k hk _ hs => by have := g3 rfl k hs; omega), fun h => (by cases h), g4⟩
  · injection ht with ht
    subst ht
    exact ⟨W.heap.size, W'.heap.size, Nat.le_refl _, ⟨h1, h2, h3, h4, fun k e => (h2.lt k e).2, fun x hx k e => ((h3 x hx).lt k e).2, fun k e => (h4.lt k e).2⟩, fun b hb' => .inl (S.bx b hb').1.2.2⟩
  · obtain ⟨q1, q2, q3, q4⟩ := S.bx b hb'
    exact ⟨q1.keep hp.1 q3, q2, hp.off q1.2.2 q3, q4⟩
theorem St.al8 (S : St w ra Ba rb Bb ha hb sa ka sb kb o ta tb none b9 W) (T : TypeId) : St w ra Ba rb Bb ha hb sa ka sb kb o ta tb (some W.heap.size) b9 (W.alloc (.cells zer.toArray T)) := by
  have hbl : Below W.heap.size W (W.alloc (.cells zer.toArray T)) := (Below.refl _ W).alloc (Nat.le_refl _) _
  refine ⟨S.a.below hbl, S.b.below hbl, S.ap, fun t ht => ?_, fun t ht => ?_, fun b hb' => ?_, fun b c h1 h2 => ?_⟩
  · obtain ⟨lo, hi, g1, g2, g3, g4⟩ := S.da t ht
    refine ⟨lo, hi, Nat.le_trans g1 hbl.size, g2.below hbl, g3, fun b hb' => ?_⟩
    rcases hb' with q | q
    · injection q with q
      exact .inr (by omega)
    · exact g4 b (.inr q)
  · obtain ⟨lo, hi, g1, g2, g4⟩ := S.db t ht
    refine ⟨lo, hi, Nat.le_trans g1 hbl.size, g2.below hbl, fun b hb' => ?_⟩
    rcases hb' with q | q
    · injection q with q
      exact .inr (by omega)
    · exact g4 b (.inr q)
  · rcases hb' with q | q
    · injection q with q
      subst q
      exact ⟨CBox.fresh W zer T, fun h => by have := (S.a.rf.lt h).2; omega, fun h => by have := (S.b.rf.lt h).2; omega, S.a.bel.size⟩
    · obtain ⟨q1, q2⟩ := S.bx b (.inr q)
      exact ⟨q1.below hbl, q2⟩
  · injection h1 with h1
    have := (S.bx c (.inr h2)).1.2.2
    omega
theorem St.al9 (S : St w ra Ba rb Bb ha hb sa ka sb kb o ta tb b8 none W) (T : TypeId) : St w ra Ba rb Bb ha hb sa ka sb kb o ta tb b8 (some W.heap.size) (W.alloc (.cells zer.toArray T)) := by
  have hbl : Below W.heap.size W (W.alloc (.cells zer.toArray T)) := (Below.refl _ W).alloc (Nat.le_refl _) _
  refine ⟨S.a.below hbl, S.b.below hbl, S.ap, fun t ht => ?_, fun t ht => ?_, fun b hb' => ?_, fun b c h1 h2 => ?_⟩
  · obtain ⟨lo, hi, g1, g2, g3, g4⟩ := S.da t ht
    refine ⟨lo, hi, Nat.le_trans g1 hbl.size, g2.below hbl, g3, fun b hb' => ?_⟩
    rcases hb' with q | q
    · exact g4 b (.inl q)
    · injection q with q
      exact .inr (by omega)
  · obtain ⟨lo, hi, g1, g2, g4⟩ := S.db t ht
    refine ⟨lo, hi, Nat.le_trans g1 hbl.size, g2.below hbl, fun b hb' => ?_⟩
    rcases hb' with q | q
    · exact g4 b (.inl q)
    · injection q with q
      exact .inr (by omega)
  · rcases hb' with q | q
    · obtain ⟨q1, q2⟩ := S.bx b (.inl q)
      exact ⟨q1.below hbl, q2⟩
    · injection q with q
      subst q
      exact ⟨CBox.fresh W zer T, fun h => by have := (S.a.rf.lt h).2; omega, fun h => by have := (S.b.rf.lt h).2; omega, S.a.bel.size⟩
  · injection h2 with h2
    have := (S.bx b (.inl h1)).1.2.2
    omega
/-- Four cells are stored. -/
def set4 (W : World) (b : Nat) (v0 v1 v2 v3 : Value) : World := (((W.setCell ⟨b, 0, none⟩ v0).setCell ⟨b, 1, none⟩ v1).setCell ⟨b, 2, none⟩ v2).setCell ⟨b, 3, none⟩ v3
theorem set4_fr (W : World) (b : Nat) (v0 v1 v2 v3 : Value) : Fr (fun k => k = b) W (set4 W b v0 v1 v2 v3) :=
  ((((Fr.refl (fun k => k = b) W).setCell (p := ⟨b, 0, none⟩) (fun _ => rfl) _).setCell (p := ⟨b, 1, none⟩) (fun _ => rfl) _).setCell (p := ⟨b, 2, none⟩) (fun _ => rfl) _).setCell (p := ⟨b, 3, none⟩) (fun _ => rfl) _
theorem set4_box {W : World} {b : Nat} {v0 v1 v2 v3 : Value} (h : CBox b zer W) : CBox b [v0, v1, v2, v3] (set4 W b v0 v1 v2 v3) :=
  (((h.set 0 v0 (by show 0 < 4; omega)).set 1 v1 (by show 1 < 4; omega)).set 2 v2 (by show 2 < 4; omega)).set 3 v3 (by show 3 < 4; omega)
/-- Both were told and lie in their boxes. -/
structure Dn (w : World) (ra Ba rb Bb : Nat) (ha hb : Hd) (s : RS) (k : Nat) (o : Ot) (t u : TV) (b8 b9 : Nat) (W : World) : Prop where
  a : Ts w ra Ba s ha k W
  b : Ts w rb Bb s hb k W
  ap : ∀ x, Fo ra ha x → ¬ Fo rb hb x
  da : ∃ lo hi, Td o lo hi t W
  db : ∃ lo hi, Td o lo hi u W
  x8 : CBox b8 [.slice t.pq t.mh.length t.cq, .bool o.hd, .int .i64 o.fr, .slice t.pn o.nd.length t.cn] W
  x9 : CBox b9 [.slice u.pq u.mh.length u.cq, .bool o.hd, .int .i64 o.fr, .slice u.pn o.nd.length u.cn] W
theorem Dn.below {s : RS} {k n8 n9 : Nat} {t u : TV} (D : Dn w ra Ba rb Bb ha hb s k o t u n8 n9 W) (hbl : Below W.heap.size W W') : Dn w ra Ba rb Bb ha hb s k o t u n8 n9 W' := by
  obtain ⟨lo, hi, h⟩ := D.da
  obtain ⟨lo', hi', h'⟩ := D.db
  exact ⟨D.a.below hbl, D.b.below hbl, D.ap, ⟨lo, hi, h.below hbl⟩, ⟨lo', hi', h'.below hbl⟩, D.x8.below hbl, D.x9.below hbl⟩
theorem St.put {s : RS} {k n8 n9 : Nat} {t u : TV} (S : St w ra Ba rb Bb ha hb s k s k o (some t) (some u) (some n8) (some n9) W) :
    Below w.heap.size w (set4 W n8 (.slice t.pq t.mh.length t.cq) (.bool o.hd) (.int .i64 o.fr) (.slice t.pn o.nd.length t.cn)) ∧
    Dn w ra Ba rb Bb ha hb s k o t u n8 n9 (set4 (set4 W n8 (.slice t.pq t.mh.length t.cq) (.bool o.hd) (.int .i64 o.fr) (.slice t.pn o.nd.length t.cn)) n9 (.slice u.pq u.mh.length u.cq) (.bool o.hd) (.int .i64 o.fr) (.slice u.pn o.nd.length u.cn)) := by
  obtain ⟨x1, x2, x3, x4⟩ := S.bx n8 (.inl rfl)
  obtain ⟨y1, y2, y3, y4⟩ := S.bx n9 (.inr rfl)
  have hne := S.ne n8 n9 rfl rfl
  have hne2 : ¬ n9 = n8 := fun h => hne h.symm
  have f1 := set4_fr W n8 (.slice t.pq t.mh.length t.cq) (.bool o.hd) (.int .i64 o.fr) (.slice t.pn o.nd.length t.cn)
  have z1 := set4_box (v0 := .slice t.pq t.mh.length t.cq) (v1 := .bool o.hd) (v2 := .int .i64 o.fr) (v3 := .slice t.pn o.nd.length t.cn) x1
  have b1 : Below w.heap.size w (set4 W n8 (.slice t.pq t.mh.length t.cq) (.bool o.hd) (.int .i64 o.fr) (.slice t.pn o.nd.length t.cn)) := S.a.bel.trans (f1.below S.a.bel.size (fun i hi => by omega))
  generalize set4 W n8 (.slice t.pq t.mh.length t.cq) (.bool o.hd) (.int .i64 o.fr) (.slice t.pn o.nd.length t.cn) = W1 at *
  have y1' := y1.keep f1 hne2
  have f2 := set4_fr W1 n9 (.slice u.pq u.mh.length u.cq) (.bool o.hd) (.int .i64 o.fr) (.slice u.pn o.nd.length u.cn)
  have z2 := set4_box (v0 := .slice u.pq u.mh.length u.cq) (v1 := .bool o.hd) (v2 := .int .i64 o.fr) (v3 := .slice u.pn o.nd.length u.cn) y1'
  have b2 : Below w.heap.size w (set4 W1 n9 (.slice u.pq u.mh.length u.cq) (.bool o.hd) (.int .i64 o.fr) (.slice u.pn o.nd.length u.cn)) := b1.trans (f2.below b1.size (fun i hi => by omega))
  generalize set4 W1 n9 (.slice u.pq u.mh.length u.cq) (.bool o.hd) (.int .i64 o.fr) (.slice u.pn o.nd.length u.cn) = W2 at *
  obtain ⟨lo, hi, _, g2, _, g4⟩ := S.da t rfl
  obtain ⟨lo', hi', _, g2', g4'⟩ := S.db u rfl
  have d8 := g4 n8 (.inl rfl)
  have d9 := g4 n9 (.inr rfl)
  have e8 := g4' n8 (.inl rfl)
  have e9 := g4' n9 (.inr rfl)
  refine ⟨b1, ⟨S.a.cl, (S.a.rf.keep f1 (fun k hk he => x2 (he ▸ hk))).keep f2 (fun k hk he => y2 (he ▸ hk)), S.a.th, S.a.lo, b2⟩, ⟨S.b.cl, (S.b.rf.keep f1 (fun k hk he => x3 (he ▸ hk))).keep f2 (fun k hk he => y3 (he ▸ hk)), S.b.th, S.b.lo, b2⟩, S.ap, ⟨lo, hi, (g2.keep f1 (fun k _ _ he => by omega)).keep f2 (fun k _ _ he => by omega)⟩, ⟨lo', hi', (g2'.keep f1 (fun k _ _ he => by omega)).keep f2 (fun k _ _ he => by omega)⟩, z1.keep f2 hne, z2⟩
end
section
variable {w W : World} {rb B0 i : Nat} {s : RS} {h : Hd} {o : OpL}
/-- A step is heard. -/
theorem hear_ts (T : Ts w rb B0 s h i W) (hi : i < 200) (HOK : OpOk2 o w) (ms : List Int) (HMS : RdI w w.heap.size o.sp o.sn ms) (HSI : o.m.en.length ≤ 40 ∧ (∀ y ∈ o.m.en, y.da.size ≤ 12000) ∧ o.st.size ≤ 3000) (HBB : o.m.ix ≤ 1099511627776 ∧ o.six ≤ 1099511627776) :
    Calls Tryz.prog 35 #[.pointer (some ⟨rb, 0, none⟩), .agg #[.int .i64 o.kd, .int .i64 o.a, .int .i64 o.b, .int .i64 o.m.kd, .int .i64 o.m.fr, .int .i64 o.m.tq, .int .i64 o.m.tm, .int .i64 o.m.ix, .int .i64 o.m.lt, .int .i64 o.m.cm, .int .i64 o.m.rd, .bool o.m.ok, .bool o.x.dn, .slice o.x.pe o.m.en.length o.x.ce, .slice o.x.pm o.x.nm o.x.cm, .int .i64 o.x.of, .slice o.x.pp o.x.np o.x.cp, .string o.st, .slice o.lp o.ln o.lc, .int .i64 o.six, .int .i64 o.stm, .slice o.sp o.sn o.sc]] W (Ans rb B0 (s.hearA o ms) h W) := by
  have HOI := HOK.1.int
  have HEN := HOK.1.msg.ens2 T.bel (fun e he => by have := HSI.2.1 e he; omega) T.rf T.lo
  have hML : MB i + ((max o.m.en.length 1 : Nat) : Int) < 4503599627370496 := by unfold MB; omega
  have hNL : NB i + max o.m.en.length 1 ≤ 10000 := by unfold NB; omega
  have hVT : s.votes.length ≤ 900 := by have := T.th.ev.2; omega
  have hSX : o.six ≤ MB i := by unfold MB; omega
  exact rf_hearA o ms T.rf T.th.bd hML hNL hVT T.cl T.th.out T.th.ev.1 HEN ⟨⟨HOI.2.1, HOI.2.2.1, HOI.2.2.2.1⟩, HOK.1.msg.int.2.2.2.2.1⟩ HSI.2.2 hSX ((HMS.below T.bel).more T.bel.size) HMS.1 (fun h0 g k hp hf => by
    obtain ⟨b, o', e', hb', _⟩ := HMS.2 h0
    rw [hp] at e'
    injection e' with e'
    injection e' with e1 _ _
    have := (T.rf.lt hf).1
    have := T.lo
    omega)
end
set_option maxHeartbeats 2000000 in
set_option maxRecDepth 100000 in
theorem same_eq (p q : Option Addr) (n c d : Nat) (zs : List Int) (w : World) (h1 : RdI w w.heap.size p n zs) (h2 : RdI w w.heap.size q n zs) (hn : n ≤ 9223372036854775807) :
    Calls Tryz.prog 17 #[.slice p n c, .slice q n d] w fun e w' => e = .returned (.bool true) ∧ Below w.heap.size w w' := by
  have hne : ((n : Int) != (n : Int)) = false := by simp
  have H1 := Lib.hid h1
  have H2 := Lib.hid h2
  clear h1 h2
  go_enter Tryz.func17, Tryz.ntmps17
  go_wp2
  clear hne
  go_loopw [5, 4] (fun iv _ wr => ∃ k : Nat, k ≤ n ∧ iv = .int .i64 k ∧ Hid (Below w.heap.size w wr)) (fun iv _ _ => n - (intOf iv).toNat)
  case atStart => exact ⟨0, Nat.zero_le _, rfl, Lib.hid (Below.refl _ _)⟩
  case round =>
    obtain ⟨k, hk, rfl, HB⟩ := hrel
    by_cases hlt : k < n
    · obtain ⟨b1, o1, e1, l1, c1⟩ := H1.out.2 (by omega)
      obtain ⟨b2, o2, e2, l2, c2⟩ := H2.out.2 (by omega)
      subst e1 e2
      have hI : (k : Int) < (n : Int) := by omega
      have q1 := (HB.out.cell (p := ⟨b1, o1 + k, none⟩) (Nat.lt_of_lt_of_le l1 (Nat.le_refl _))).trans (c1 k hlt)
      have q2 := (HB.out.cell (p := ⟨b2, o2 + k, none⟩) (Nat.lt_of_lt_of_le l2 (Nat.le_refl _))).trans (c2 k hlt)
      have HHK := Lib.hid (And.intro hk (And.intro hlt HB.out))
      clear c1 c2
      generalize HL.el zs k = x at *
      have hwk : IntKind.i64.wrap ((k : Int) + 1) = (k : Int) + 1 := IntWalk.i64_in _ (by omega)
      go_wp2
      go_quiet (fail)
      have HB9 := Lib.hid (below_dr HHK.out.2.2 nq)
      go_wp2
      go_roundw
      case rel => exact ⟨k + 1, by omega, by go_num, HB9⟩
      case measure => simp [intOf]; omega
    · have hI : ¬ ((k : Int) < (n : Int)) := by omega
      go_wp2
      go_ret
      exact ⟨rfl, HB.out⟩
end RF
end Go.Proofs.YtaodldagmmephaaGreat

/- arboretumlaw20.RaftTwins: what is looked at behind each step. -/
namespace Go.Proofs.YtaodldagmmephaaGreat
open Go.RowKit Go.Maps
namespace RF
set_option maxHeartbeats 40000000 in
set_option maxRecDepth 100000 in
theorem tw14 {c : Code} (hc : (Tryz.f11).body.bind (aftReg 13) = some c) {Q : Exit → Act → World → Prop} {W8 : World} {b8 b9 b10 b11 cq cn cq' cn' : Nat} {pq pn pq' pn' : Option Addr} {mh mh' : List (Mg × Value)} {nd : List Int} {ohd : Bool} {ofr : Int} {z3 : RS} {v7 v7' : Value} {f0 f1 f3 f4 f5 f6 f7 f12 f13 f14 f15 f16 f17 f18 f19 f20 f21 f22 f23 f24 f25 f26 f27 f28 f29 f30 f31 f32 f33 f34 f35 f36 f37 f38 f39 f40 f41 f42 f43 f44 f45 f46 f47 f48 f49 f50 f51 f52 f53 f54 f55 f56 f57 f58 f59 f60 f61 f62 f63 f64 f65 f66 f67 f68 f69 f70 f71 f72 f73 f74 f75 f76 f77 f78 f79 f80 f81 f145 v2 v82 v83 v84 v85 v86 v87 v88 v89 v90 v91 v92 v93 v94 v95 v96 v97 v98 v99 v100 v101 v102 v103 v104 v105 v106 v107 v108 v109 v110 v111 v112 v113 v114 v115 v116 v117 v118 v119 v120 v121 v122 v123 v124 v125 v126 v127 v128 v129 v130 v131 v132 v133 v134 v135 v136 v137 v138 v139 v140 v141 v142 v143 v144 : Value} (H8 : Hid (CBox b8 (outL pq mh.length cq ohd ofr pn nd.length cn) W8)) (H9 : Hid (CBox b9 (outL pq' mh'.length cq' ohd ofr pn' nd.length cn') W8)) (H10 : Hid (CBox b10 (vwL z3 v7) W8)) (H11 : Hid (CBox b11 (vwL z3 v7') W8)) (HM : Hid (MsgsAt pq mh W8 ∧ MsgsAt pq' mh' W8 ∧ mh.map (·.1) = mh'.map (·.1) ∧ mh.length ≤ 9223372036854775807)) (HN : Hid (RdI W8 W8.heap.size pn nd.length nd ∧ RdI W8 W8.heap.size pn' nd.length nd ∧ nd.length ≤ 9223372036854775807))
    (hQ : ∀ (u2 u82 u83 u84 u85 u86 u87 u88 u89 u90 u91 u92 u93 u94 u95 u96 u97 u98 u99 u100 u101 u102 u103 u104 u105 u106 u107 u108 u109 u110 u111 u112 u113 u114 u115 u116 u117 u118 u119 u120 u121 u122 u123 u124 u125 u126 u127 u128 u129 u130 u131 u132 u133 u134 u135 u136 u137 u138 u139 u140 u141 u142 u143 u144 : Value)  (wx : World), Hid (Below W8.heap.size W8 wx) → Q .normal ⟨#[f0, f1, u2, f3, f4, f5, f6, f7, .pointer (some ⟨b8, 0, none⟩), .pointer (some ⟨b9, 0, none⟩), .pointer (some ⟨b10, 0, none⟩), .pointer (some ⟨b11, 0, none⟩), f12, f13, f14, f15, f16, f17, f18, f19, f20, f21, f22, f23, f24, f25, f26, f27, f28, f29, f30, f31, f32, f33, f34, f35, f36, f37, f38, f39, f40, f41, f42, f43, f44, f45, f46, f47, f48, f49, f50, f51, f52, f53, f54, f55, f56, f57, f58, f59, f60, f61, f62, f63, f64, f65, f66, f67, f68, f69, f70, f71, f72, f73, f74, f75, f76, f77, f78, f79, f80, f81, u82, u83, u84, u85, u86, u87, u88, u89, u90, u91, u92, u93, u94, u95, u96, u97, u98, u99, u100, u101, u102, u103, u104, u105, u106, u107, u108, u109, u110, u111, u112, u113, u114, u115, u116, u117, u118, u119, u120, u121, u122, u123, u124, u125, u126, u127, u128, u129, u130, u131, u132, u133, u134, u135, u136, u137, u138, u139, u140, u141, u142, u143, u144, f145], []⟩ wx) : c.wp Tryz.prog Q ⟨#[f0, f1, v2, f3, f4, f5, f6, f7, .pointer (some ⟨b8, 0, none⟩), .pointer (some ⟨b9, 0, none⟩), .pointer (some ⟨b10, 0, none⟩), .pointer (some ⟨b11, 0, none⟩), f12, f13, f14, f15, f16, f17, f18, f19, f20, f21, f22, f23, f24, f25, f26, f27, f28, f29, f30, f31, f32, f33, f34, f35, f36, f37, f38, f39, f40, f41, f42, f43, f44, f45, f46, f47, f48, f49, f50, f51, f52, f53, f54, f55, f56, f57, f58, f59, f60, f61, f62, f63, f64, f65, f66, f67, f68, f69, f70, f71, f72, f73, f74, f75, f76, f77, f78, f79, f80, f81, v82, v83, v84, v85, v86, v87, v88, v89, v90, v91, v92, v93, v94, v95, v96, v97, v98, v99, v100, v101, v102, v103, v104, v105, v106, v107, v108, v109, v110, v111, v112, v113, v114, v115, v116, v117, v118, v119, v120, v121, v122, v123, v124, v125, v126, v127, v128, v129, v130, v131, v132, v133, v134, v135, v136, v137, v138, v139, v140, v141, v142, v143, v144, f145], []⟩ W8 := by
  have HQ := Lib.hid hQ
  clear hQ
  obtain ⟨d, hd, hc⟩ := aft_body2 hc
  unfold Tryz.f11 at hd
  simp only [Option.some.injEq] at hd
  subst hd
  simp [aftReg, endsReg] at hc
  subst hc
  have HS := Lib.hid (same_msgs pq pq' cq cq' mh mh' W8 HM.out.1 HM.out.2.1 HM.out.2.2.1 HM.out.2.2.2)
  have HZ8 : Hid (∀ W, Below W8.heap.size W8 W → ∀ j u, (outL pq mh.length cq ohd ofr pn nd.length cn)[j]? = some u → W.cell? ⟨b8, j, none⟩ = some u) := Lib.hid (fun W hb j u hu => (H8.out.below hb).1 j u hu)
  have HZ9 : Hid (∀ W, Below W8.heap.size W8 W → ∀ j u, (outL pq' mh'.length cq' ohd ofr pn' nd.length cn')[j]? = some u → W.cell? ⟨b9, j, none⟩ = some u) := Lib.hid (fun W hb j u hu => (H9.out.below hb).1 j u hu)
  have d1 : (ohd != ohd) = false := by simp
  have d2 : (ofr != ofr) = false := by simp
  have a0 := HZ8.out W8 (Below.refl _ _) 0 _ rfl
  have a1 := HZ8.out W8 (Below.refl _ _) 1 _ rfl
  have a2 := HZ8.out W8 (Below.refl _ _) 2 _ rfl
  have c0 := HZ9.out W8 (Below.refl _ _) 0 _ rfl
  have c1 := HZ9.out W8 (Below.refl _ _) 1 _ rfl
  have c2 := HZ9.out W8 (Below.refl _ _) 2 _ rfl
  (try simp only [])
  go_wp2_with fail
  with_reducible refine (HS.out).mono ?_
  rintro e W9 ⟨rfl, hb9⟩
  have HB9 := Lib.hid hb9
  have HT := Lib.hid (same_eq pn pn' nd.length cn cn' nd W9 ((HN.out.1.below hb9).more hb9.size) ((HN.out.2.1.below hb9).more hb9.size) HN.out.2.2)
  clear a0 a1 a2 c0 c1 c2 hb9 HS
  have a3 := HZ8.out W9 HB9.out 3 _ rfl
  have c3 := HZ9.out W9 HB9.out 3 _ rfl
  go_wp2_with fail
  with_reducible refine (HT.out).mono ?_
  rintro e Wx ⟨rfl, hbx⟩
  have HBX := Lib.hid (HB9.out.trans (hbx.mono HB9.out.size))
  clear a3 c3 hbx HT HB9 HZ8 HZ9 H8 H9 d1 d2
  have e1 := (H10.out.below HBX.out).1 1 _ rfl
  have e3 := (H10.out.below HBX.out).1 3 _ rfl
  have e5 := (H10.out.below HBX.out).1 5 _ rfl
  have e7 := (H10.out.below HBX.out).1 7 _ rfl
  have e9 := (H10.out.below HBX.out).1 9 _ rfl
  have f1 := (H11.out.below HBX.out).1 1 _ rfl
  have f3 := (H11.out.below HBX.out).1 3 _ rfl
  have f5 := (H11.out.below HBX.out).1 5 _ rfl
  have f7 := (H11.out.below HBX.out).1 7 _ rfl
  have f9 := (H11.out.below HBX.out).1 9 _ rfl
  generalize (lastS z3.b z3.t z3.l).1 = la at *
  have g1 : (z3.term != z3.term) = false := by simp
  have g2 : (z3.role != z3.role) = false := by simp
  have g3 : (z3.commit != z3.commit) = false := by simp
  have g4 : (la != la) = false := by simp
  have g5 : (z3.elapsed != z3.elapsed) = false := by simp
  go_wp2
  exact HQ.out _ _ _ _ _ _ _ _ _ _ _ _ _ _ _ _ _ _ _ _ _ _ _ _ _ _ _ _ _ _ _ _ _ _ _ _ _ _ _ _ _ _ _ _ _ _ _ _ _ _ _ _ _ _ _ _ _ _ _ _ _ _ _ _ _ HBX
set_option maxHeartbeats 40000000 in
set_option maxRecDepth 100000 in
theorem tw13 {c : Code} (hc : (Tryz.f11).body.bind (aftReg 12) = some c) {Q : Exit → Act → World → Prop} {w W8 : World} {ra Ba rb Bb b8 b9 k : Nat} {ha hb : Hd} {t u : TV} {o : Ot} {z3 : RS} {f0 f1 f4 f6 f7 f12 f13 f14 f15 f16 f17 f18 f19 f20 f21 f22 f23 f24 f25 f26 f27 f28 f29 f30 f31 f32 f33 f34 f35 f36 f37 f38 f39 f40 f41 f42 f43 f44 f45 f46 f47 f48 f49 f50 f51 f52 f53 f54 f55 f56 f57 f58 f59 f60 f61 f62 f63 f64 f65 f66 f67 f68 f69 f70 f71 f72 f73 f74 f75 f76 f77 f145 v2 v10 v11 v78 v79 v80 v81 v82 v83 v84 v85 v86 v87 v88 v89 v90 v91 v92 v93 v94 v95 v96 v97 v98 v99 v100 v101 v102 v103 v104 v105 v106 v107 v108 v109 v110 v111 v112 v113 v114 v115 v116 v117 v118 v119 v120 v121 v122 v123 v124 v125 v126 v127 v128 v129 v130 v131 v132 v133 v134 v135 v136 v137 v138 v139 v140 v141 v142 v143 v144 : Value} (HD : Hid (Dn w ra Ba rb Bb ha hb z3 k o t u b8 b9 W8)) (HM : Hid (∀ W lo hi (t : TV), Td o lo hi t W → MsgsAt t.pq t.mh W))
    (hQ : ∀ (u2 u10 u11 u78 u79 u80 u81 u82 u83 u84 u85 u86 u87 u88 u89 u90 u91 u92 u93 u94 u95 u96 u97 u98 u99 u100 u101 u102 u103 u104 u105 u106 u107 u108 u109 u110 u111 u112 u113 u114 u115 u116 u117 u118 u119 u120 u121 u122 u123 u124 u125 u126 u127 u128 u129 u130 u131 u132 u133 u134 u135 u136 u137 u138 u139 u140 u141 u142 u143 u144 : Value)  (wx : World), Hid (Below W8.heap.size W8 wx) → Q .normal ⟨#[f0, f1, u2, .pointer (some ⟨ra, 0, none⟩), f4, .pointer (some ⟨rb, 0, none⟩), f6, f7, .pointer (some ⟨b8, 0, none⟩), .pointer (some ⟨b9, 0, none⟩), u10, u11, f12, f13, f14, f15, f16, f17, f18, f19, f20, f21, f22, f23, f24, f25, f26, f27, f28, f29, f30, f31, f32, f33, f34, f35, f36, f37, f38, f39, f40, f41, f42, f43, f44, f45, f46, f47, f48, f49, f50, f51, f52, f53, f54, f55, f56, f57, f58, f59, f60, f61, f62, f63, f64, f65, f66, f67, f68, f69, f70, f71, f72, f73, f74, f75, f76, f77, u78, u79, u80, u81, u82, u83, u84, u85, u86, u87, u88, u89, u90, u91, u92, u93, u94, u95, u96, u97, u98, u99, u100, u101, u102, u103, u104, u105, u106, u107, u108, u109, u110, u111, u112, u113, u114, u115, u116, u117, u118, u119, u120, u121, u122, u123, u124, u125, u126, u127, u128, u129, u130, u131, u132, u133, u134, u135, u136, u137, u138, u139, u140, u141, u142, u143, u144, f145], []⟩ wx) : c.wp Tryz.prog Q ⟨#[f0, f1, v2, .pointer (some ⟨ra, 0, none⟩), f4, .pointer (some ⟨rb, 0, none⟩), f6, f7, .pointer (some ⟨b8, 0, none⟩), .pointer (some ⟨b9, 0, none⟩), v10, v11, f12, f13, f14, f15, f16, f17, f18, f19, f20, f21, f22, f23, f24, f25, f26, f27, f28, f29, f30, f31, f32, f33, f34, f35, f36, f37, f38, f39, f40, f41, f42, f43, f44, f45, f46, f47, f48, f49, f50, f51, f52, f53, f54, f55, f56, f57, f58, f59, f60, f61, f62, f63, f64, f65, f66, f67, f68, f69, f70, f71, f72, f73, f74, f75, f76, f77, v78, v79, v80, v81, v82, v83, v84, v85, v86, v87, v88, v89, v90, v91, v92, v93, v94, v95, v96, v97, v98, v99, v100, v101, v102, v103, v104, v105, v106, v107, v108, v109, v110, v111, v112, v113, v114, v115, v116, v117, v118, v119, v120, v121, v122, v123, v124, v125, v126, v127, v128, v129, v130, v131, v132, v133, v134, v135, v136, v137, v138, v139, v140, v141, v142, v143, v144, f145], []⟩ W8 := by
  have HQ := Lib.hid hQ
  clear hQ
  obtain ⟨d, hd, hc⟩ := aft_body2 hc
  unfold Tryz.f11 at hd
  simp only [Option.some.injEq] at hd
  subst hd
  simp [aftReg, endsReg] at hc
  subst hc
  (try simp only [])
  go_upto_region 13 with fail
  go_cut [10, 11] from 78 to 81 (fun s10 s11 wx => ∃ (b10 b11 : Nat) (v7 v7' : Value), s10 = .pointer (some ⟨b10, 0, none⟩) ∧ s11 = .pointer (some ⟨b11, 0, none⟩) ∧ Hid (Dn w ra Ba rb Bb ha hb z3 k o t u b8 b9 wx ∧ CBox b10 (vwL z3 v7) wx ∧ CBox b11 (vwL z3 v7') wx ∧ Below W8.heap.size W8 wx))
  case first =>
    have HSV := Lib.hid (rf_state HD.out.a.rf HD.out.a.th.bd)
    go_wp2_with fail
    with_reducible refine (HSV.out).mono ?_
    rintro e W3 ⟨v3, rfl, ho3, hb3⟩
    obtain ⟨p3, c3, hv3⟩ := owns_slice ho3
    subst hv3
    have HD3 := Lib.hid (HD.out.below hb3)
    have HB3 := Lib.hid hb3
    clear ho3 hb3 HSV HD
    unfold stateV
    have HSV := Lib.hid (rf_state HD3.out.b.rf HD3.out.b.th.bd)
    go_wp2_with fail
    with_reducible refine (HSV.out).mono ?_
    rintro e W4 ⟨v4, rfl, ho4, hb4⟩
    obtain ⟨p4, c4, hv4⟩ := owns_slice ho4
    subst hv4
    have HD4 := Lib.hid (HD3.out.below hb4)
    have HB4 := Lib.hid (HB3.out.trans (hb4.mono HB3.out.size))
    clear ho4 hb4 HSV HD3 HB3
    (try clear W3)
    unfold stateV
    have hb5 : Below W4.heap.size W4 (W4.alloc (.cells (vwL z3 (.slice p3 z3.all.length c3)).toArray 41)) := (Below.refl _ W4).alloc (Nat.le_refl _) _
    have hs5 : (W4.alloc (.cells (vwL z3 (.slice p3 z3.all.length c3)).toArray 41)).heap.size = W4.heap.size + 1 := World.size_alloc _ _
    have X10 := CBox.fresh W4 (vwL z3 (.slice p3 z3.all.length c3)) 41
    have hb6 : Below (W4.alloc (.cells (vwL z3 (.slice p3 z3.all.length c3)).toArray 41)).heap.size (W4.alloc (.cells (vwL z3 (.slice p3 z3.all.length c3)).toArray 41)) ((W4.alloc (.cells (vwL z3 (.slice p3 z3.all.length c3)).toArray 41)).alloc (.cells (vwL z3 (.slice p4 z3.all.length c4)).toArray 41)) := (Below.refl _ _).alloc (Nat.le_refl _) _
    have X11 := CBox.fresh (W4.alloc (.cells (vwL z3 (.slice p3 z3.all.length c3)).toArray 41)) (vwL z3 (.slice p4 z3.all.length c4)) 41
    rw [hs5] at X11
    have HF : Hid (Dn w ra Ba rb Bb ha hb z3 k o t u b8 b9 _ ∧ CBox W4.heap.size (vwL z3 (.slice p3 z3.all.length c3)) _ ∧ CBox (W4.heap.size + 1) (vwL z3 (.slice p4 z3.all.length c4)) _ ∧ Below W8.heap.size W8 _) := Lib.hid ⟨(HD4.out.below hb5).below hb6, X10.below hb6, X11, HB4.out.trans ((hb5.trans (hb6.mono hb5.size)).mono HB4.out.size)⟩
    unfold vwL at HF
    dsimp only [List.toArray] at HF
    clear X10 X11 hb5 hb6 hs5 HB4 HD4
    go_wp2
    go_meet
    case rel => exact ⟨_, _, _, _, rfl, rfl, HF⟩
  case rest =>
  obtain ⟨b10, b11, v7, v7', rfl, rfl, HF⟩ := hcut
  obtain ⟨lo, hi, hta⟩ := HF.out.1.da
  obtain ⟨lo', hi', htb⟩ := HF.out.1.db
  have HTA := Lib.hid hta
  have HTB := Lib.hid htb
  clear hta htb
  go_step
  refine tw14 (c := _) (by kernel_rfl) (Lib.hid HF.out.1.x8) (Lib.hid HF.out.1.x9) (Lib.hid HF.out.2.1) (Lib.hid HF.out.2.2.1) (Lib.hid ⟨HM.out _ _ _ _ HTA.out, HM.out _ _ _ _ HTB.out, HTA.out.ms.trans HTB.out.ms.symm, own_max HTA.out.rm⟩) (Lib.hid ⟨RdI.of_own HTA.out.rn rfl, RdI.of_own HTB.out.rn rfl, own_max HTA.out.rn⟩) ?_
  intro _ _ _ _ _ _ _ _ _ _ _ _ _ _ _ _ _ _ _ _ _ _ _ _ _ _ _ _ _ _ _ _ _ _ _ _ _ _ _ _ _ _ _ _ _ _ _ _ _ _ _ _ _ _ _ _ _ _ _ _ _ _ _ _ wx HBX
  exact HQ.out _ _ _ _ _ _ _ _ _ _ _ _ _ _ _ _ _ _ _ _ _ _ _ _ _ _ _ _ _ _ _ _ _ _ _ _ _ _ _ _ _ _ _ _ _ _ _ _ _ _ _ _ _ _ _ _ _ _ _ _ _ _ _ _ _ _ _ _ _ _ _ (Lib.hid (HF.out.2.2.2.trans (HBX.out.mono HF.out.2.2.2.size)))
end RF
end Go.Proofs.YtaodldagmmephaaGreat

