/- Merged texts: Rf27 Rf28 Rf32 Rf33. -/
import Derived.Test.YtaodldagmmephaaGreatB2
/- raft: voteReq, voteRes. -/
namespace Go.Proofs.YtaodldagmmephaaGreat
open Go.RowKit Go.Maps
namespace RF
section
variable {rb base : Nat} {s : RS} {h : Hd} {w : World} {M : Int} {N : Nat}
set_option maxHeartbeats 2000000 in
set_option maxRecDepth 100000 in
theorem rf_voteReq (m : Mg) (x : Mx) (H : Rf rb base s h w) (hms : h.mh.length ≤ 800000) :
    Calls Tryz.prog 56 #[.pointer (some ⟨rb, 0, none⟩), mxval m x] w fun e w' => e = .returned (.tuple #[]) ∧ ∃ h', Rf rb base (s.voteReq m) h' w' ∧ PS rb h h' w w' ∧ h'.mh.length ≤ h.mh.length + 1 := by
  have hb1 : Below w.heap.size w (w.alloc (.cells #[.int .i64 m.kd, .int .i64 m.fr, .int .i64 m.tq, .int .i64 m.tm, .int .i64 m.ix, .int .i64 m.lt, .int .i64 m.cm, .int .i64 m.rd, .bool m.ok, .bool x.dn, .slice x.pe m.en.length x.ce, .slice x.pm x.nm x.cm, .int .i64 x.of, .slice x.pp x.np x.cp] 48)) := (Below.refl _ w).alloc (Nat.le_refl _) _
  have HR1 := Lib.hid (H.below hb1)
  have HB1 := Lib.hid hb1
  have X1 := CBox.fresh w [.int .i64 m.kd, .int .i64 m.fr, .int .i64 m.tq, .int .i64 m.tm, .int .i64 m.ix, .int .i64 m.lt, .int .i64 m.cm, .int .i64 m.rd, .bool m.ok, .bool x.dn, .slice x.pe m.en.length x.ce, .slice x.pm x.nm x.cm, .int .i64 x.of, .slice x.pp x.np x.cp] 48
  have hrl := Nat.ne_of_lt H.rlt
  have HLT := Lib.hid (fun k (hk : Fo rb h k) => (H.lt hk).2)
  unfold mxval
  clear H hb1
  go_enter Tryz.func56, Tryz.ntmps56
  go_upto_region 1 with fail
  dsimp only [List.toArray] at X1
  generalize w.alloc (.cells #[.int .i64 m.kd, .int .i64 m.fr, .int .i64 m.tq, .int .i64 m.tm, .int .i64 m.ix, .int .i64 m.lt, .int .i64 m.cm, .int .i64 m.rd, .bool m.ok, .bool x.dn, .slice x.pe m.en.length x.ce, .slice x.pm x.nm x.cm, .int .i64 x.of, .slice x.pp x.np x.cp] 48) = W1 at *
  generalize w.heap.size = b1 at X1 hrl HLT ⊢
  have HX1 := Lib.hid X1
  have a1 : ∀ q : Later W1, q.1.cell? ⟨b1, 1, none⟩ = some (.int .i64 m.fr) := fun q => (X1.below q.2).1 1 _ rfl
  have a4 : ∀ q : Later W1, q.1.cell? ⟨b1, 4, none⟩ = some (.int .i64 m.ix) := fun q => (X1.below q.2).1 4 _ rfl
  have a5 : ∀ q : Later W1, q.1.cell? ⟨b1, 5, none⟩ = some (.int .i64 m.lt) := fun q => (X1.below q.2).1 5 _ rfl
  have q1 : ∀ q : Later W1, q.1.cell? ⟨rb, 1, none⟩ = some (.int .i64 s.role) := HR1.out.q 1 rfl
  have q4 : ∀ q : Later W1, q.1.cell? ⟨rb, 4, none⟩ = some (.int .i64 s.vote) := HR1.out.q 4 rfl
  have q10 : ∀ q : Later W1, q.1.cell? ⟨rb, 10, none⟩ = some (.pointer (some ⟨h.xb, 0, none⟩)) := HR1.out.q 10 rfl
  have HNW := Lib.hid (fun W (hW : Below W1.heap.size W1 W) => lg_newer m.ix m.lt ((HR1.out.below hW).all .log))
  have HNL : Hid (∀ q : Later W1, Calls Tryz.prog 96 #[.pointer (some ⟨h.xb, 0, none⟩), .int .i64 m.ix, .int .i64 m.lt] q.1 fun e w' => e = .returned (.bool (newerS s.b s.t s.l m.ix m.lt)) ∧ Below q.1.heap.size q.1 w') := Lib.hid (fun q => HNW.out q.1 q.2)
  have HOK : Hid (s.voteOk m = (decide (s.vote = 0 ∨ s.vote = m.fr) && decide (s.role = 0) && newerS s.b s.t s.l m.ix m.lt)) := Lib.hid rfl
  generalize newerS s.b s.t s.l m.ix m.lt = nw at *
  clear X1 HNW
  go_cut [4] (fun s4 wx => ∃ β : Bool, s4 = .bool β ∧ Hid (β = s.voteOk m) ∧ Hid (Below W1.heap.size W1 wx))
  case first =>
    by_cases h0 : s.vote = 0
    · have d0 : (s.vote == 0) = true := by simp [h0]
      by_cases hr : s.role = 0
      · have d1 : (s.role == 0) = true := by simp [hr]
        have HE : Hid (nw = s.voteOk m) := Lib.hid (by rw [HOK.out, decide_eq_true (.inl h0), decide_eq_true hr]; simp)
        clear h0 hr
        go_wp2_with fail
        refine wp_region_later (by kernel_rfl) (by kernel_rfl) ?_
        repeat (go_big_quiet_step ((go_at_call 96; exact Calls.later_of (HNL.out _))))
        refine wpQuiet_nil ?_
        intro w3 hw'
        obtain ⟨⟨wq, hq⟩, hw''⟩ := hw'
        have hwe : w3 = wq := hw''
        clear hw''
        subst hwe
        have HB3 := Lib.hid hq
        clear hq
        go_wp2
        go_meet
        case rel => exact ⟨_, rfl, HE, HB3⟩
      · have d1 : (s.role == 0) = false := by simp [hr]
        have HE : Hid (false = s.voteOk m) := Lib.hid (by rw [HOK.out, decide_eq_false hr]; simp)
        clear h0 hr
        go_wp2_with fail
        refine wp_region_later (by kernel_rfl) (by kernel_rfl) ?_
        repeat (go_big_quiet_step ((go_at_call 96; exact Calls.later_of (HNL.out _))))
        refine wpQuiet_nil ?_
        intro w3 hw'
        obtain ⟨⟨wq, hq⟩, hw''⟩ := hw'
        have hwe : w3 = wq := hw''
        clear hw''
        subst hwe
        have HB3 := Lib.hid hq
        clear hq
        go_wp2
        go_meet
        case rel => exact ⟨_, rfl, HE, HB3⟩
    · have d0 : (s.vote == 0) = false := by simp [h0]
      by_cases hf : s.vote = m.fr
      · have df : (s.vote == m.fr) = true := by simp [hf]
        by_cases hr : s.role = 0
        · have d1 : (s.role == 0) = true := by simp [hr]
          have HE : Hid (nw = s.voteOk m) := Lib.hid (by rw [HOK.out, decide_eq_true (.inr hf), decide_eq_true hr]; simp)
          clear h0 hr hf
          go_wp2_with fail
          refine wp_region_later (by kernel_rfl) (by kernel_rfl) ?_
          repeat (go_big_quiet_step ((go_at_call 96; exact Calls.later_of (HNL.out _))))
          refine wpQuiet_nil ?_
          intro w3 hw'
          obtain ⟨⟨wq, hq⟩, hw''⟩ := hw'
          have hwe : w3 = wq := hw''
          clear hw''
          subst hwe
          have HB3 := Lib.hid hq
          clear hq
          go_wp2
          go_meet
          case rel => exact ⟨_, rfl, HE, HB3⟩
        · have d1 : (s.role == 0) = false := by simp [hr]
          have HE : Hid (false = s.voteOk m) := Lib.hid (by rw [HOK.out, decide_eq_false hr]; simp)
          clear h0 hr hf
          go_wp2_with fail
          refine wp_region_later (by kernel_rfl) (by kernel_rfl) ?_
          repeat (go_big_quiet_step ((go_at_call 96; exact Calls.later_of (HNL.out _))))
          refine wpQuiet_nil ?_
          intro w3 hw'
          obtain ⟨⟨wq, hq⟩, hw''⟩ := hw'
          have hwe : w3 = wq := hw''
          clear hw''
          subst hwe
          have HB3 := Lib.hid hq
          clear hq
          go_wp2
          go_meet
          case rel => exact ⟨_, rfl, HE, HB3⟩
      · have df : (s.vote == m.fr) = false := by simp [hf]
        have HE : Hid (false = s.voteOk m) := Lib.hid (by rw [HOK.out, decide_eq_false (fun e => e.elim h0 hf)]; simp)
        clear h0 hf
        go_wp2_with fail
        refine wp_region_later (by kernel_rfl) (by kernel_rfl) ?_
        repeat (go_big_quiet_step ((go_at_call 96; exact Calls.later_of (HNL.out _))))
        refine wpQuiet_nil ?_
        intro w3 hw'
        obtain ⟨⟨wq, hq⟩, hw''⟩ := hw'
        have hwe : w3 = wq := hw''
        clear hw''
        subst hwe
        have HB3 := Lib.hid hq
        clear hq
        go_wp2
        go_meet
        case rel => exact ⟨_, rfl, HE, HB3⟩
  case rest =>
    obtain ⟨β, rfl, HBE, HBW⟩ := hcut
    have HS : Hid (s.voteReq m = (if β = true then s.grant m else s).say { mg0 with kd := 2, tq := m.fr, ok := β }) := Lib.hid (by rw [HBE.out]; rfl)
    have HR2 := Lib.hid (HR1.out.below HBW.out)
    have HX2 := Lib.hid (HX1.out.below HBW.out)
    have HP2 := Lib.hid (HB1.out.trans (HBW.out.mono HB1.out.size))
    clear a1 a4 a5 q1 q4 q10 HNL HOK
    go_upto_if 37 with fail
    go_cut [] (fun wx => Hid (Rf rb base (if β = true then s.grant m else s) h wx ∧ PS rb h h w wx ∧ CBox b1 [.int .i64 m.kd, .int .i64 m.fr, .int .i64 m.tq, .int .i64 m.tm, .int .i64 m.ix, .int .i64 m.lt, .int .i64 m.cm, .int .i64 m.rd, .bool m.ok, .bool x.dn, .slice x.pe m.en.length x.ce, .slice x.pm x.nm x.cm, .int .i64 x.of, .slice x.pp x.np x.cp] wx))
    case first =>
      cases β with
      | false =>
        have HF : Hid (Rf rb base (if false = true then s.grant m else s) h wc ∧ PS rb h h w wc ∧ CBox b1 [.int .i64 m.kd, .int .i64 m.fr, .int .i64 m.tq, .int .i64 m.tm, .int .i64 m.ix, .int .i64 m.lt, .int .i64 m.cm, .int .i64 m.rd, .bool m.ok, .bool x.dn, .slice x.pe m.en.length x.ce, .slice x.pm x.nm x.cm, .int .i64 x.of, .slice x.pp x.np x.cp] wc) := Lib.hid ⟨HR2.out, PS.still HP2.out, HX2.out⟩
        go_wp2
        go_meet
        case rel => exact HF
      | true =>
        have hx := HX2.out.1 1 _ rfl
        have a1 : ∀ q : Later wc, q.1.cell? ⟨b1, 1, none⟩ = some (.int .i64 m.fr) := fun q => (HX2.out.below q.2).1 1 _ rfl
        have q4 : ∀ q : Later wc, q.1.cell? ⟨rb, 4, none⟩ = some (.int .i64 s.vote) := HR2.out.q 4 rfl
        have q14 : ∀ q : Later wc, q.1.cell? ⟨rb, 14, none⟩ = some (.bool s.out.hd) := HR2.out.q 14 rfl
        have c4 : wc.cell? ⟨rb, 4, none⟩ = some (.int .i64 s.vote) := HR2.out.cell 4 rfl
        have f4 : wc.frozen? ⟨rb, 4, none⟩ = false := HR2.out.fz 4 (by omega)
        have c6 : wc.cell? ⟨rb, 6, none⟩ = some (.int .i64 s.elapsed) := HR2.out.cell 6 rfl
        have f6 : wc.frozen? ⟨rb, 6, none⟩ = false := HR2.out.fz 6 (by omega)
        have c14 : wc.cell? ⟨rb, 14, none⟩ = some (.bool s.out.hd) := HR2.out.cell 14 rfl
        have f14 : wc.frozen? ⟨rb, 14, none⟩ = false := HR2.out.fz 14 (by omega)
        obtain ⟨hd', hhd⟩ : ∃ hd', hd' = (s.out.hd || !decide (s.vote = m.fr)) := ⟨_, rfl⟩
        have HG : Hid (s.grant m = { s with out := { s.out with hd := hd' }, vote := m.fr, elapsed := 0 }) := Lib.hid (by rw [hhd]; rfl)
        have h3 := (((HR2.out.put { s with out := { s.out with hd := hd' } } 14 (.bool hd') (by omega) rfl (same_refl s)).below (Below.refl _ _).drew).put { s with out := { s.out with hd := hd' }, vote := m.fr } 4 (.int .i64 m.fr) (by omega) rfl (same_refl s)).put { s with out := { s.out with hd := hd' }, vote := m.fr, elapsed := 0 } 6 (.int .i64 0) (by omega) rfl (same_refl s)
        have hf3 := fr_core2 (fr_core2 (fr_core wc rb 14 (.bool hd')).drew 4 (.int .i64 m.fr)) 6 (.int .i64 0)
        have HF : Hid (Rf rb base (if true = true then s.grant m else s) h ((((wc.setCell ⟨rb, 14, none⟩ (.bool hd')).drew).setCell ⟨rb, 4, none⟩ (.int .i64 m.fr)).setCell ⟨rb, 6, none⟩ (.int .i64 0)) ∧ PS rb h h w ((((wc.setCell ⟨rb, 14, none⟩ (.bool hd')).drew).setCell ⟨rb, 4, none⟩ (.int .i64 m.fr)).setCell ⟨rb, 6, none⟩ (.int .i64 0)) ∧ CBox b1 [.int .i64 m.kd, .int .i64 m.fr, .int .i64 m.tq, .int .i64 m.tm, .int .i64 m.ix, .int .i64 m.lt, .int .i64 m.cm, .int .i64 m.rd, .bool m.ok, .bool x.dn, .slice x.pe m.en.length x.ce, .slice x.pm x.nm x.cm, .int .i64 x.of, .slice x.pp x.np x.cp] ((((wc.setCell ⟨rb, 14, none⟩ (.bool hd')).drew).setCell ⟨rb, 4, none⟩ (.int .i64 m.fr)).setCell ⟨rb, 6, none⟩ (.int .i64 0))) := Lib.hid ⟨by rw [if_pos rfl, HG.out]; exact h3, (PS.still HP2.out).trans (PS.core hf3), HX2.out.keep hf3 (fun e => hrl e.symm)⟩
        clear h3 hf3
        go_wp2_with fail
        cases hhv : s.out.hd with
        | true =>
          obtain rfl : hd' = true := by rw [hhd, hhv]; rfl
          clear hhd
          rw [hhv] at q14 c14
          refine Mix.region_mix (n := 18) (m := 1) (fun V => ∃ q : Later wc, V = q.1) [0, 1, 2, 3, 4, 5, 6, 7, 8, 9, 10, 11, 12, 13, 14, 15, 16, 17] (by kernel_rfl) rfl rfl (by kernel_rfl) (by kernel_rfl) ⟨⟨_, (Below.refl _ _).drew⟩, rfl⟩ ?_
          repeat (refine Mix.picks_step rfl ?_; go_big_quiet_step (fail))
          refine Mix.picks_nil ?_
          intro inv
          refine sink_last (by kernel_rfl) rfl (by kernel_rfl) (fun K hK => ?_)
          have HKK := Lib.hid hK
          clear hK
          go_simp
          refine HKK.out _ _ ⟨rfl, ?_⟩
          clear HKK inv
          go_wp2
          go_meet
          case rel => exact HF
        | false =>
          rw [hhv] at q14 c14
          by_cases hvf : s.vote = m.fr
          · have dv : (s.vote != m.fr) = false := by simp [hvf]
            obtain rfl : hd' = false := by rw [hhd, hhv, decide_eq_true hvf]; rfl
            clear hhd hvf
            refine Mix.region_mix (n := 18) (m := 1) (fun V => ∃ q : Later wc, V = q.1) [0, 1, 2, 3, 4, 5, 6, 7, 8, 9, 10, 11, 12, 13, 14, 15, 16, 17] (by kernel_rfl) rfl rfl (by kernel_rfl) (by kernel_rfl) ⟨⟨_, (Below.refl _ _).drew⟩, rfl⟩ ?_
            repeat (refine Mix.picks_step rfl ?_; go_big_quiet_step (fail))
            refine Mix.picks_nil ?_
            intro inv
            refine sink_last (by kernel_rfl) rfl (by kernel_rfl) (fun K hK => ?_)
            have HKK := Lib.hid hK
            clear hK
            go_simp
            refine HKK.out _ _ ⟨rfl, ?_⟩
            clear HKK inv
            go_wp2
            go_meet
            case rel => exact HF
          · have dv : (s.vote != m.fr) = true := by simp [hvf]
            obtain rfl : hd' = true := by rw [hhd, decide_eq_false hvf]; simp
            clear hhd hvf
            refine Mix.region_mix (n := 18) (m := 1) (fun V => ∃ q : Later wc, V = q.1) [0, 1, 2, 3, 4, 5, 6, 7, 8, 9, 10, 11, 12, 13, 14, 15, 16, 17] (by kernel_rfl) rfl rfl (by kernel_rfl) (by kernel_rfl) ⟨⟨_, (Below.refl _ _).drew⟩, rfl⟩ ?_
            repeat (refine Mix.picks_step rfl ?_; go_big_quiet_step (fail))
            refine Mix.picks_nil ?_
            intro inv
            refine sink_last (by kernel_rfl) rfl (by kernel_rfl) (fun K hK => ?_)
            have HKK := Lib.hid hK
            clear hK
            go_simp
            refine HKK.out _ _ ⟨rfl, ?_⟩
            clear HKK inv
            go_wp2
            go_meet
            case rel => exact HF
    case rest =>
      have HC := Lib.hid hcut.out
      clear hcut HR2 HX2 HP2
      rename_i wd
      have a1 := HC.out.2.2.1 1 _ rfl
      have HSY := Lib.hid (rf_say2 ⟨2, 0, m.fr, 0, 0, 0, 0, 0, β, []⟩ (.slice none 0 0) HC.out.1 (World.ownsRow_nil _ _ _ _) (fun k e => by cases e) (by omega) w h HC.out.2.1 (fun k e => by cases e))
      unfold mval at HSY
      dsimp only at HSY
      go_wp2_with fail
      with_reducible refine (HSY.out).mono ?_
      rintro e w2 ⟨rfl, h2, hr2, hp2, hm2⟩
      have HF := Lib.hid (And.intro hr2 (And.intro hp2 hm2))
      clear hr2 hp2 hm2
      go_wp2
      go_end0
      exact ⟨rfl, h2, by rw [HS.out]; exact HF.out.1, HF.out.2.1, by rw [HF.out.2.2]; exact Nat.le_refl _⟩
end
end RF
end Go.Proofs.YtaodldagmmephaaGreat

/- raft: voteRes. -/
namespace Go.Proofs.YtaodldagmmephaaGreat
open Go.RowKit Go.Maps
namespace RF
section
variable {rb base : Nat} {s : RS} {h : Hd} {w : World} {M : Int} {N : Nat}
/-- One more votes. -/
theorem Rf.voted (H : Rf rb base s h w) (id : Int) (vv : Value) {w' : World} (hF : Fr (fun k => k = rb ∨ h.vv.ownBlock = some k) w w') (hc : ∀ j u, (cells ({ s with votes := s.votes ++ [id] } : RS) { h with vv := vv })[j]? = some u → w'.cell? ⟨rb, j, none⟩ = some u) (hz : ∀ j, j < 17 → w'.frozen? ⟨rb, j, none⟩ = false)
    (ho : w'.ownsRow base 3 1 vv (s.votes.length + 1) (rowOf ncells (s.votes ++ [id]))) (hl : vv.ownBlock = h.vv.ownBlock ∨ ∀ k, vv.ownBlock = some k → w.heap.size ≤ k) :
    Rf rb base ({ s with votes := s.votes ++ [id] } : RS) { h with vv := vv } w' ∧ PS rb h { h with vv := vv } w w' := by
  refine ⟨H.upd (fun p => p = .core ∨ p = .votes) (fun p k => p = .votes ∧ w.heap.size ≤ k) hF ?_ ?_ ?_ ?_ ?_, hF.mono ?_, ?_⟩
  · rintro k (rfl | hk) p hp
    · exact .inl (H.dis p .core k hp rfl)
    · exact .inr (H.dis p .votes k hp hk)
  · rintro p (rfl | rfl)
    · exact ⟨hc, hz, (H.all .core).2.2⟩
    · show World.ownsRow w' base 3 1 vv (s.votes ++ [id]).length _
      rw [List.length_append]
      exact ho
  · intro p hp hh
    cases p with
    | core => exact absurd (.inl rfl) hp
    | votes => exact absurd (.inr rfl) hp
    | log => exact hh
    | snap => exact hh
    | map => exact hh
    | peers => exact hh
    | need => exact hh
    | msgs => exact hh
    | ents => exact hh
  · intro p k hk
    cases p with
    | votes =>
      rcases hl with e | e
      · exact .inl (e.symm.trans hk)
      · exact .inr ⟨⟨rfl, e k hk⟩, fun q hq => by have := (part_lt (H.all q) k hq).2; have := e k hk; omega⟩
    | core => exact .inl hk
    | log => exact .inl hk
    | snap => exact .inl hk
    | map => exact .inl hk
    | peers => exact .inl hk
    | need => exact .inl hk
    | msgs => exact .inl hk
    | ents => exact .inl hk
  · rintro p q k ⟨rfl, _⟩ ⟨rfl, _⟩; rfl
  · rintro i _ (e | e)
    · exact ⟨.core, e⟩
    · exact ⟨.votes, e⟩
  · intro p k hk
    cases p with
    | votes =>
      rcases hl with e | e
      · exact .inl (e.symm.trans hk)
      · exact .inr (e k hk)
    | core => exact .inl hk
    | log => exact .inl hk
    | snap => exact .inl hk
    | map => exact .inl hk
    | peers => exact .inl hk
    | need => exact .inl hk
    | msgs => exact .inl hk
    | ents => exact .inl hk


set_option maxHeartbeats 2000000 in
set_option maxRecDepth 100000 in
theorem rf_voteRes (m : Mg) (x : Mx) (H : Rf rb base s h w) (B : RB M N s) (hM : M < 4503599627370496) (hN : N < 10000) (hvt : s.votes.length ≤ 900) (hms : h.mh.length ≤ 500000) (hnd : s.out.nd.length ≤ 500000) :
    Calls Tryz.prog 57 #[.pointer (some ⟨rb, 0, none⟩), mxval m x] w fun e w' => e = .returned (.tuple #[]) ∧ ∃ h', Rf rb base (s.voteRes m) h' w' ∧ PS rb h h' w w' ∧ h'.mh.length ≤ h.mh.length + 9 := by
  have hb1 : Below w.heap.size w (w.alloc (.cells #[.int .i64 m.kd, .int .i64 m.fr, .int .i64 m.tq, .int .i64 m.tm, .int .i64 m.ix, .int .i64 m.lt, .int .i64 m.cm, .int .i64 m.rd, .bool m.ok, .bool x.dn, .slice x.pe m.en.length x.ce, .slice x.pm x.nm x.cm, .int .i64 x.of, .slice x.pp x.np x.cp] 48)) := (Below.refl _ w).alloc (Nat.le_refl _) _
  have HR1 := Lib.hid (H.below hb1)
  have HB1 := Lib.hid hb1
  have X1 := CBox.fresh w [.int .i64 m.kd, .int .i64 m.fr, .int .i64 m.tq, .int .i64 m.tm, .int .i64 m.ix, .int .i64 m.lt, .int .i64 m.cm, .int .i64 m.rd, .bool m.ok, .bool x.dn, .slice x.pe m.en.length x.ce, .slice x.pm x.nm x.cm, .int .i64 x.of, .slice x.pp x.np x.cp] 48
  have hrl := H.rlt
  have HLT := Lib.hid (fun k (hk : Fo rb h k) => (H.lt hk).2)
  have HBS := Lib.hid H.bs
  have HBB := Lib.hid B
  have HS0 : Hid (s.voteRes m = if s.role ≠ 1 ∨ m.ok = false then s else if CL.won (s.voteRes1 m).all (s.voteRes1 m).votes = true then (s.voteRes1 m).win else s.voteRes1 m) := Lib.hid rfl
  unfold mxval
  clear H hb1 B
  go_enter Tryz.func57, Tryz.ntmps57
  go_upto_region 1 with fail
  dsimp only [List.toArray] at X1
  generalize w.alloc (.cells #[.int .i64 m.kd, .int .i64 m.fr, .int .i64 m.tq, .int .i64 m.tm, .int .i64 m.ix, .int .i64 m.lt, .int .i64 m.cm, .int .i64 m.rd, .bool m.ok, .bool x.dn, .slice x.pe m.en.length x.ce, .slice x.pm x.nm x.cm, .int .i64 x.of, .slice x.pp x.np x.cp] 48) = W1 at *
  obtain ⟨b1, hb1⟩ : ∃ b1, b1 = w.heap.size := ⟨_, rfl⟩
  rw [← hb1] at X1 ⊢
  have HB1E := Lib.hid hb1
  have HX1 := Lib.hid X1
  have a1 := X1.1 1 _ rfl
  have a8 := X1.1 8 _ rfl
  clear X1 hb1
  have c1 : W1.cell? ⟨rb, 1, none⟩ = some (.int .i64 s.role) := HR1.out.cell 1 rfl
  have f1 : W1.frozen? ⟨rb, 1, none⟩ = false := HR1.out.fz 1 (by omega)
  by_cases hr : s.role = 1
  case neg =>
    have d1 : (s.role != 1) = true := by simp [hr]
    have HS : Hid (s.voteRes m = s) := Lib.hid (by rw [HS0.out, if_pos (.inl hr)])
    clear hr
    go_wp2
    refine bodyPost_ret (results_none rfl _ _ _) rfl ?_
    exact ⟨rfl, h, by rw [HS.out]; exact HR1.out, PS.still HB1.out, Nat.le_add_right _ _⟩
  case pos =>
  have d1 : (s.role != 1) = false := by simp [hr]
  cases hok : m.ok with
  | false =>
    have HS : Hid (s.voteRes m = s) := Lib.hid (by rw [HS0.out, if_pos (.inr hok)])
    rw [hok] at a8
    clear hr hok
    go_wp2
    refine bodyPost_ret (results_none rfl _ _ _) rfl ?_
    exact ⟨rfl, h, by rw [HS.out]; exact HR1.out, PS.still HB1.out, Nat.le_add_right _ _⟩
  | true =>
  rw [hok] at a8
  have HS : Hid (s.voteRes m = if CL.won (s.voteRes1 m).all (s.voteRes1 m).votes = true then (s.voteRes1 m).win else s.voteRes1 m) := Lib.hid (by rw [HS0.out, if_neg (fun e => e.elim (fun h => h hr) (fun h => by rw [hok] at h; cases h))])
  clear hr hok HS0
  have HOV := Lib.hid (HR1.out.all .votes)
  have HNB : Hid (¬ h.vv.ownBlock = some b1) := Lib.hid (fun e => by have := HLT.out b1 ⟨.votes, e⟩; have := HB1E.out; omega)
  have HNR : Hid (¬ h.vv.ownBlock = some rb) := Lib.hid (fun e => by have := HR1.out.dis .votes .core rb e rfl; cases this)
  obtain ⟨po, co, hvo⟩ := owns_slice HOV.out
  have HVO := Lib.hid hvo
  have q12 : ∀ q : KeptF (fun k => h.vv.ownBlock = some k) W1, q.1.cell? ⟨rb, 12, none⟩ = some (.slice po s.votes.length co) := fun q => (q.2.cell (p := ⟨rb, 12, none⟩) HR1.out.rlt HNR.out).trans ((HR1.out.cell 12 rfl).trans (by rw [HVO.out]))
  have r1 : ∀ q : KeptF (fun k => h.vv.ownBlock = some k) W1, q.1.cell? ⟨b1, 1, none⟩ = some (.int .i64 m.fr) := fun q => (HX1.out.keep q.2 HNB.out).1 1 _ rfl
  have p12 : ∀ q : Later W1, q.1.cell? ⟨rb, 12, none⟩ = some (.slice po s.votes.length co) := fun q => (HR1.out.q 12 rfl q).trans (by rw [HVO.out])
  have p1 : ∀ q : Later W1, q.1.cell? ⟨b1, 1, none⟩ = some (.int .i64 m.fr) := fun q => (HX1.out.below q.2).1 1 _ rfl
  have hov := HOV.out
  dsimp only [holds] at hov
  rw [hvo] at hov
  have hrv := RdI.of_own hov rfl
  have HCT : Hid (∀ q : Later W1, Calls Tryz.prog 97 #[.slice po s.votes.length co, .int .i64 m.fr] q.1 fun e w' => e = .returned (.bool (decide (m.fr ∈ s.votes))) ∧ w' = q.1) := Lib.hid (fun q => (contains_ints po s.votes.length co _ s.votes m.fr q.1 (hrv.below q.2) (by omega)).mono (fun _ _ h => ⟨h.1, h.2.symm⟩))
  have HV1 : Hid (s.voteRes1 m = if m.fr ∈ s.votes then s else { s with votes := s.votes ++ [m.fr] }) := Lib.hid rfl
  clear hvo a1 hrv hov
  generalize hdd : decide (m.fr ∈ s.votes) = dd at HCT
  go_upto_region 2 with fail
  refine wp_region_later (by kernel_rfl) (by kernel_rfl) ?_
  repeat (go_big_quiet_step ((go_at_call 97; exact Calls.later_same (HCT.out _))))
  refine wpQuiet_nil ?_
  intro w3 hw'
  obtain ⟨⟨wq, hq⟩, hw''⟩ := hw'
  have hwe : w3 = wq := hw''
  clear hw''
  subst hwe
  have HB13 := Lib.hid (HB1.out.trans (hq.mono HB1.out.size))
  have HR3 := Lib.hid (HR1.out.below hq)
  have HX3 := Lib.hid (HX1.out.below hq)
  clear hq q12 r1 p12 p1 HCT HR1 HX1 HB1 a8 c1 f1 d1
  go_upto_if 21 with fail
  go_cut [] (fun wx => Hid (∃ h2, Rf rb base (s.voteRes1 m) h2 wx ∧ PS rb h h2 w wx ∧ h2.mh = h.mh))
  case first =>
    cases dd with
    | true =>
      have HF2 : Hid (∃ h2, Rf rb base (s.voteRes1 m) h2 w3 ∧ PS rb h h2 w w3 ∧ h2.mh = h.mh) := Lib.hid ⟨h, by rw [HV1.out, if_pos (of_decide_eq_true hdd)]; exact HR3.out, PS.still HB13.out, rfl⟩
      clear hdd
      go_wp2
      go_meet
      case rel => exact HF2
    | false =>
      have HF : Hid (s.voteRes1 m = { s with votes := s.votes ++ [m.fr] }) := Lib.hid (by rw [HV1.out, if_neg (of_decide_eq_false hdd)])
      clear hdd
      have q12 : ∀ q : KeptF (fun k => h.vv.ownBlock = some k) w3, q.1.cell? ⟨rb, 12, none⟩ = some (.slice po s.votes.length co) := fun q => (q.2.cell (p := ⟨rb, 12, none⟩) HR3.out.rlt HNR.out).trans ((HR3.out.cell 12 rfl).trans (by rw [HVO.out]))
      have r1 : ∀ q : KeptF (fun k => h.vv.ownBlock = some k) w3, q.1.cell? ⟨b1, 1, none⟩ = some (.int .i64 m.fr) := fun q => (HX3.out.keep q.2 HNB.out).1 1 _ rfl
      go_wp2_with fail
      refine Mix.region_mix (n := 11) (m := 5) (fun V => ∃ q : KeptF (fun k => h.vv.ownBlock = some k) w3, V = q.1) [0, 1, 2, 3, 4, 5, 6] (by kernel_rfl) rfl rfl (by kernel_rfl) (by kernel_rfl) ⟨⟨_, (Fr.refl _ _).drew⟩, rfl⟩ ?_
      repeat (refine Mix.picks_step rfl ?_; go_big_quiet_step (fail))
      refine Mix.picks_nil ?_
      intro inv
      refine sink_one (i := 7) (by kernel_rfl) rfl (by omega) inv (fun K hK => ?_)
      have HKK := Lib.hid hK
      clear hK
      go_simp
      have HF3 : Hid (∀ o, Fr (fun k => h.vv.ownBlock = some k) w3 (w3.alloc o)) := Lib.hid (fun o => (Fr.refl _ w3).alloc o)
      refine HKK.out _ _ ⟨⟨_, (HF3.out _).drew⟩, rfl⟩ ?_
      clear HKK inv
      intro hS inv
      (try simp only [Act.put]); (try simp only [List.setIfInBounds_toArray]); (try simp only [List.set_cons_succ]); (try simp only [List.set_cons_zero])
      refine sink_one (i := 8) (by kernel_rfl) rfl (by omega) inv (fun K hK => ?_)
      have HKK := Lib.hid hK
      clear hK
      refine RowT.step int_T rfl _ _ rfl base h.vv s.votes.length (rowOf ncells s.votes) (by rw [HVO.out]; rfl) (World.ownsRow.alloc (show w3.ownsRow base _ _ _ _ _ from HR3.out.all .votes) _) (m := 1) (zs := [m.fr]) rfl (one_cells w3 [.int .i64 m.fr] 3 ncells m.fr rfl) (fun h => by cases h) (by omega) (by have := HR3.out.bs; simp; omega) ?_
      intro v4 w4 hown4 hgr4 hat4
      have HF4 : Hid (Fr (fun k => h.vv.ownBlock = some k) w3 w4) := Lib.hid (Fr.trans (HF3.out _).drew (Fr.of_grown hgr4 (S := fun k => h.vv.ownBlock = some k) (fun _ _ h => h)) (fun i hi _ => hi))
      have hlow : v4.ownBlock = h.vv.ownBlock ∨ ∀ g, v4.ownBlock = some g → w3.heap.size ≤ g := by
        rcases hat4 with e | e
        · exact .inl e
        · refine .inr (fun g hg => ?_)
          rw [e] at hg
          injection hg with hg
          simp at hg
          omega
      have HLOW := Lib.hid hlow
      have hne : v4.ownBlock ≠ some rb := fun e => by
        rcases hlow with h9 | h9
        · exact HNR.out (h9.symm.trans e)
        · have := h9 rb e; have := HR3.out.rlt; omega
      have HROW := Lib.hid ((fr_core w4 rb 12 v4).owns (by rw [← rowOf_append] at hown4; exact hown4) (fun g hg e => hne (by rw [hg, e])))
      have hc4 : ∀ o, w4.cell? ⟨rb, o, none⟩ = w3.cell? ⟨rb, o, none⟩ := fun o => HF4.out.cell (p := ⟨rb, o, none⟩) HR3.out.rlt HNR.out
      have hz4 : ∀ o, w4.frozen? ⟨rb, o, none⟩ = w3.frozen? ⟨rb, o, none⟩ := fun o => HF4.out.frozen (p := ⟨rb, o, none⟩) HR3.out.rlt HNR.out
      have cq : w4.cell? ⟨rb, 12, none⟩ = some (.slice po s.votes.length co) := (hc4 12).trans ((HR3.out.cell 12 rfl).trans (by rw [HVO.out]))
      have fq : w4.frozen? ⟨rb, 12, none⟩ = false := (hz4 12).trans (HR3.out.fz 12 (by omega))
      have HCE := Lib.hid (And.intro hc4 hz4)
      obtain ⟨p4, c4, hv4⟩ := owns_slice hown4
      have HV4 := Lib.hid hv4
      subst hv4
      clear hown4 hgr4 hat4 hlow hne hc4 hz4
      refine HKK.out _ _ ⟨⟨_, HF4.out⟩, rfl⟩ ?_
      clear HKK inv hS
      intro hS inv
      (try simp only [Act.put]); (try simp only [List.setIfInBounds_toArray]); (try simp only [List.set_cons_succ]); (try simp only [List.set_cons_zero])
      refine sink_one (i := 9) (by kernel_rfl) rfl (by omega) inv (fun K hK => ?_)
      have HKK := Lib.hid hK
      clear hK
      go_simp
      refine HKK.out _ _ ⟨⟨_, HF4.out⟩, rfl⟩ ?_
      clear HKK inv
      intro hS inv
      (try simp only [Act.put]); (try simp only [List.setIfInBounds_toArray]); (try simp only [List.set_cons_succ]); (try simp only [List.set_cons_zero])
      refine sink_one (i := 10) (by kernel_rfl) rfl (by omega) inv (fun K hK => ?_)
      have HKK := Lib.hid hK
      clear hK
      go_simp
      refine HKK.out _ _ ⟨⟨_, HF4.out⟩, rfl⟩ ?_
      clear HKK inv
      intro hS inv
      (try simp only [Act.put]); (try simp only [List.setIfInBounds_toArray]); (try simp only [List.set_cons_succ]); (try simp only [List.set_cons_zero])
      refine sink_last (by kernel_rfl) rfl (by kernel_rfl) (fun K hK => ?_)
      have HKK := Lib.hid hK
      clear hK
      go_simp
      refine HKK.out _ _ ⟨rfl, ?_⟩
      clear HKK inv hS
      clear q12 r1 cq fq
      have hFA : Fr (fun k => k = rb ∨ h.vv.ownBlock = some k) w3 (w4.setCell ⟨rb, 12, none⟩ (.slice p4 (s.votes.length + 1) c4)) := Fr.trans (HF4.out.mono (T := fun k => k = rb ∨ h.vv.ownBlock = some k) (fun _ _ e => .inr e)) (fr_core w4 rb 12 _) (fun i hi _ => .inl hi)
      have hfin := HR3.out.voted m.fr (.slice p4 (s.votes.length + 1) c4) hFA (fun j u hu => by
        by_cases hj : j = 12
        · subst hj
          injection hu with hu
          rw [← hu]
          exact cell_set_same _ _ _ _ ((HCE.out.1 12).trans (HR3.out.cell 12 rfl))
        · rw [World.cell?_setCell_other _ _ _ _ (by intro e; injection e with _ e _; omega), HCE.out.1 j]
          refine HR3.out.cell j ?_
          rw [← hu]
          have hj17 : j < 17 := (List.getElem?_eq_some_iff.1 hu).1
          match j, hj with
          | 0, _ => rfl
          | 1, _ => rfl
          | 2, _ => rfl
          | 3, _ => rfl
          | 4, _ => rfl
          | 5, _ => rfl
          | 6, _ => rfl
          | 7, _ => rfl
          | 8, _ => rfl
          | 9, _ => rfl
          | 10, _ => rfl
          | 11, _ => rfl
          | 13, _ => rfl
          | 14, _ => rfl
          | 15, _ => rfl
          | 16, _ => rfl
          | j + 17, _ => omega) (fun j hj => by rw [frozen_set, HCE.out.2 j]; exact HR3.out.fz j hj) HROW.out HLOW.out
      have HF2 : Hid (∃ h2, Rf rb base (s.voteRes1 m) h2 (w4.setCell ⟨rb, 12, none⟩ (.slice p4 (s.votes.length + 1) c4)) ∧ PS rb h h2 w (w4.setCell ⟨rb, 12, none⟩ (.slice p4 (s.votes.length + 1) c4)) ∧ h2.mh = h.mh) := Lib.hid ⟨_, by rw [HF.out]; exact hfin.1, (PS.still HB13.out).trans hfin.2, rfl⟩
      clear hfin hFA
      go_wp2
      go_meet
      case rel => exact HF2
  case rest =>
    obtain ⟨h2, hr2, hp2, hm2⟩ := hcut.out
    have HP2 := Lib.hid hp2
    have HM2 := Lib.hid hm2
    have HR2 := Lib.hid hr2
    clear hcut hr2 hp2 hm2 HR3 HX3 HOV HNB HNR HVO
    have HBZ := Lib.hid (HBB.out.voteRes1 m)
    have HND : Hid ((s.voteRes1 m).out.nd = s.out.nd) := Lib.hid (by rw [voteRes1_nd])
    have HVL : Hid ((s.voteRes1 m).votes.length ≤ 901) := Lib.hid (by
      rw [HV1.out]
      split
      · omega
      · show (s.votes ++ [m.fr]).length ≤ 901
        rw [List.length_append]
        show s.votes.length + 1 ≤ 901
        omega)
    generalize s.voteRes1 m = z at *
    generalize wc = wd at *
    have HAL := Lib.hid (fun (W : World) (hW : Below wd.heap.size wd W) => rf_all (HR2.out.below hW) HBZ.out.da)
    obtain ⟨pv, cv, hvv⟩ := owns_slice (HR2.out.all .votes)
    have q12 : ∀ q : Later wd, q.1.cell? ⟨rb, 12, none⟩ = some (.slice pv z.votes.length cv) := fun q => (HR2.out.q 12 (u := h2.vv) rfl q).trans (by rw [hvv])
    have HVV := Lib.hid hvv
    clear hvv
    go_wp2_with fail
    refine Mix.region_mix (n := 6) (m := 2) (fun V => ∃ q : Later wd, V = q.1) [0, 2, 3, 4, 5] (by kernel_rfl) rfl rfl (by kernel_rfl) (by kernel_rfl) ⟨⟨_, (Below.refl _ _).drew⟩, rfl⟩ ?_
    repeat (refine Mix.picks_step rfl ?_; go_big_quiet_step (fail))
    refine Mix.picks_nil ?_
    intro inv
    refine sink_one (i := 1) (by kernel_rfl) rfl (by omega) inv (fun K hK => ?_)
    have HKK := Lib.hid hK
    clear hK
    go_simp
    with_reducible refine (HAL.out _ (Below.refl _ _).drew).mono ?_
    rintro e w6 ⟨v6, rfl, ho6, hb6⟩
    obtain ⟨p6, c6, hv6⟩ := owns_slice ho6
    subst hv6
    have hb56 : Below wd.heap.size wd w6 := (Below.refl _ _).drew.trans (hb6.mono (Nat.le_refl _))
    have HB6 := Lib.hid hb56
    have HR6 := Lib.hid (HR2.out.below hb56)
    have hvo := HR6.out.all .votes
    dsimp only [holds] at hvo
    rw [HVV.out] at hvo
    have HWO := Lib.hid (won_ints p6 pv z.all.length c6 z.votes.length cv z.all z.votes w6 (RdI.of_own ho6 rfl) (RdI.of_own hvo rfl) (by have := HBZ.out.all.2.1; omega) (by have := HVL.out; omega))
    clear ho6 hb6 hb56 hvo HAL
    refine HKK.out _ _ ⟨⟨_, HB6.out⟩, rfl⟩ ?_
    clear HKK inv
    intro hS inv
    (try simp only [Act.put]); (try simp only [List.setIfInBounds_toArray]); (try simp only [List.set_cons_succ]); (try simp only [List.set_cons_zero])
    refine sink_last (by kernel_rfl) rfl (by kernel_rfl) (fun K hK => ?_)
    have HKK := Lib.hid hK
    clear hK
    go_simp
    with_reducible refine (HWO.out).mono ?_
    rintro e w7 ⟨rfl, hb7⟩
    have HB7 := Lib.hid (HB6.out.trans (hb7.mono HB6.out.size))
    have HR7 := Lib.hid (HR6.out.below hb7)
    have HP7 := Lib.hid (HP2.out.trans (PS.still HB7.out))
    clear hb7 HWO HB6 HR6
    simp only [Oper.upon]
    refine HKK.out _ _ ⟨rfl, ?_⟩
    clear HKK inv hS
    clear q12
    cases hwn : CL.won z.all z.votes with
    | true =>
      have HE : Hid (s.voteRes m = z.win) := Lib.hid (by rw [HS.out, if_pos hwn])
      have HWI := Lib.hid (rf_win HR7.out HBZ.out hM hN (by rw [HM2.out]; omega) (by rw [HND.out]; omega))
      clear hwn
      go_wp2_with fail
      with_reducible refine (HWI.out).mono ?_
      rintro e w8 ⟨rfl, h8, hr8, hp8, hm8⟩
      have HF := Lib.hid (And.intro hr8 (And.intro (HP7.out.trans hp8) hm8))
      clear hr8 hp8 hm8
      go_wp2
      go_end0
      exact ⟨rfl, h8, by rw [HE.out]; exact HF.out.1, HF.out.2.1, by have := HF.out.2.2; rw [HM2.out] at this; exact this⟩
    | false =>
      have HE : Hid (s.voteRes m = z) := Lib.hid (by rw [HS.out, if_neg (by rw [hwn]; exact Bool.false_ne_true)])
      clear hwn
      go_wp2
      go_end0
      exact ⟨rfl, h2, by rw [HE.out]; exact HR7.out, HP7.out, by rw [HM2.out]; exact Nat.le_add_right _ _⟩
end
end RF
end Go.Proofs.YtaodldagmmephaaGreat

/- raft: appRes. -/
namespace Go.Proofs.YtaodldagmmephaaGreat
open Go.RowKit Go.Maps
namespace RF
section
variable {rb base : Nat} {s : RS} {h : Hd} {w : World} {M : Int} {N : Nat}
theorem boxPr.q {x : Int × Pr × Nat} (hb : boxPr x w) : (∀ q : Later w, q.1.cell? ⟨x.2.2, 0, none⟩ = some (.int .i64 x.2.1.nx)) ∧ (∀ q : Later w, q.1.cell? ⟨x.2.2, 1, none⟩ = some (.int .i64 x.2.1.mt)) ∧ (∀ q : Later w, q.1.cell? ⟨x.2.2, 2, none⟩ = some (.int .i64 x.2.1.rd)) := by
  obtain ⟨a, b, c, _⟩ := hb
  have hl := cell_lt a
  exact ⟨fun q => (q.2.cell (p := ⟨x.2.2, 0, none⟩) hl).trans a, fun q => (q.2.cell (p := ⟨x.2.2, 1, none⟩) hl).trans b, fun q => (q.2.cell (p := ⟨x.2.2, 2, none⟩) hl).trans c⟩
set_option maxHeartbeats 2000000 in
set_option maxRecDepth 100000 in
theorem rf_appRes (m : Mg) (x : Mx) (H : Rf rb base s h w) (B : RB M N s) (hxl : -9223372036854775808 ≤ m.ix) (hms : h.mh.length ≤ 700000) (hnd : s.out.nd.length ≤ 700000) :
    Calls Tryz.prog 60 #[.pointer (some ⟨rb, 0, none⟩), mxval m x] w fun e w' => e = .returned (.tuple #[]) ∧ ∃ h', Rf rb base (s.appRes m) h' w' ∧ PS rb h h' w w' ∧ h'.mh.length ≤ h.mh.length + 1 := by
  have hb1 : Below w.heap.size w (w.alloc (.cells #[.int .i64 m.kd, .int .i64 m.fr, .int .i64 m.tq, .int .i64 m.tm, .int .i64 m.ix, .int .i64 m.lt, .int .i64 m.cm, .int .i64 m.rd, .bool m.ok, .bool x.dn, .slice x.pe m.en.length x.ce, .slice x.pm x.nm x.cm, .int .i64 x.of, .slice x.pp x.np x.cp] 48)) := (Below.refl _ w).alloc (Nat.le_refl _) _
  have HR1 := Lib.hid (H.below hb1)
  have HB1 := Lib.hid hb1
  have X1 := CBox.fresh w [.int .i64 m.kd, .int .i64 m.fr, .int .i64 m.tq, .int .i64 m.tm, .int .i64 m.ix, .int .i64 m.lt, .int .i64 m.cm, .int .i64 m.rd, .bool m.ok, .bool x.dn, .slice x.pe m.en.length x.ce, .slice x.pm x.nm x.cm, .int .i64 x.of, .slice x.pp x.np x.cp] 48
  have hrl := H.rlt
  have HLT := Lib.hid (fun k (hk : Fo rb h k) => (H.lt hk).2)
  have HBB := Lib.hid B
  have HS0 : Hid (s.appRes m = if s.role ≠ 2 ∨ ¬ m.fr ∈ s.others then s
  else
    if m.ok = true ∧ (m.ix < 0 ∨ s.last < m.ix) then s.know m.fr
    else if m.ok = false then (s.know m.fr).appNo m else (s.know m.fr).appYes m) := Lib.hid rfl
  unfold mxval
  clear H hb1 B
  go_enter Tryz.func60, Tryz.ntmps60
  go_upto_region 1 with fail
  dsimp only [List.toArray] at X1
  generalize w.alloc (.cells #[.int .i64 m.kd, .int .i64 m.fr, .int .i64 m.tq, .int .i64 m.tm, .int .i64 m.ix, .int .i64 m.lt, .int .i64 m.cm, .int .i64 m.rd, .bool m.ok, .bool x.dn, .slice x.pe m.en.length x.ce, .slice x.pm x.nm x.cm, .int .i64 x.of, .slice x.pp x.np x.cp] 48) = W1 at *
  obtain ⟨b1, hb1⟩ : ∃ b1, b1 = w.heap.size := ⟨_, rfl⟩
  rw [← hb1] at X1 hrl ⊢
  have HB1E := Lib.hid hb1
  have HX1 := Lib.hid X1
  have a1 : ∀ q : Later W1, q.1.cell? ⟨b1, 1, none⟩ = some (.int .i64 m.fr) := fun q => (HX1.out.below q.2).1 1 _ rfl
  have q1 : ∀ q : Later W1, q.1.cell? ⟨rb, 1, none⟩ = some (.int .i64 s.role) := HR1.out.q 1 rfl
  clear X1 hb1
  by_cases hr : s.role = 2
  case neg =>
    have d1 : (s.role != 2) = true := by simp [hr]
    have HS : Hid (s.appRes m = s) := Lib.hid (by rw [HS0.out, if_pos (.inl hr)])
    clear hr HS0
    go_wp2_with fail
    refine wp_region_later (by kernel_rfl) (by kernel_rfl) ?_
    repeat (go_big_quiet_step (fail))
    refine wpQuiet_nil ?_
    intro W2 hw'
    obtain ⟨⟨wq, hq⟩, hw''⟩ := hw'
    have hwe : W2 = wq := hw''
    clear hw''
    subst hwe
    have HB2 := Lib.hid (HB1.out.trans (hq.mono HB1.out.size))
    have HR2 := Lib.hid (HR1.out.below hq)
    clear hq
    go_wp2
    refine bodyPost_ret (results_none rfl _ _ _) rfl ?_
    exact ⟨rfl, h, by rw [HS.out]; exact HR2.out, PS.still HB2.out, Nat.le_add_right _ _⟩
  case pos =>
  have d1 : (s.role != 2) = false := by simp [hr]
  have HRO := Lib.hid hr
  have HO := Lib.hid (fun W (hW : Below W1.heap.size W1 W) => rf_others (HR1.out.below hW) HBB.out)
  have HON := Lib.hid HBB.out.oth
  clear hr
  go_wp2_with fail
  refine Mix.region_mix (n := 12) (m := 4) (fun V => ∃ q : Later W1, V = q.1) [0, 1, 2, 3, 4, 5, 6, 8, 9] (by kernel_rfl) rfl rfl (by kernel_rfl) (by kernel_rfl) ⟨⟨_, (Below.refl _ _).drew⟩, rfl⟩ ?_
  repeat (refine Mix.picks_step rfl ?_; go_big_quiet_step (fail))
  refine Mix.picks_nil ?_
  intro inv
  refine sink_one (i := 7) (by kernel_rfl) rfl (by omega) inv (fun K hK => ?_)
  have HKK := Lib.hid hK
  clear hK
  go_simp
  with_reducible refine (HO.out _ (Below.refl _ _).drew).mono ?_
  rintro e W2 ⟨q2, c2, rfl, ho2, hb2⟩
  have HB12 : Hid (Below W1.heap.size W1 W2) := Lib.hid ((Below.refl _ _).drew.trans (hb2.mono (Nat.le_refl _)))
  have HHS := Lib.hid (has_ints q2 s.others.length c2 W2.heap.size s.others m.fr W2 (RdI.of_own ho2 rfl) (by have := HON.out; omega))
  clear ho2 hb2 HO
  generalize hdd : decide (m.fr ∈ s.others) = dd at HHS
  refine HKK.out _ _ ⟨⟨_, HB12.out⟩, rfl⟩ ?_
  clear HKK inv
  intro hS inv
  (try simp only [Act.put]); (try simp only [List.setIfInBounds_toArray]); (try simp only [List.set_cons_succ]); (try simp only [List.set_cons_zero])
  refine sink_one (i := 10) (by kernel_rfl) rfl (by omega) inv (fun K hK => ?_)
  have HKK := Lib.hid hK
  clear hK
  go_simp
  with_reducible refine (HHS.out).mono ?_
  rintro e w7 ⟨rfl, rfl⟩
  refine HKK.out _ _ ⟨⟨_, HB12.out⟩, rfl⟩ ?_
  clear HKK inv
  intro hS inv
  (try simp only [Act.put]); (try simp only [List.setIfInBounds_toArray]); (try simp only [List.set_cons_succ]); (try simp only [List.set_cons_zero])
  have HB2 := Lib.hid (HB1.out.trans (HB12.out.mono HB1.out.size))
  have HR2 := Lib.hid (HR1.out.below HB12.out)
  have HX2 := Lib.hid (HX1.out.below HB12.out)
  cases dd with
  | false =>
    have HS : Hid (s.appRes m = s) := Lib.hid (by rw [HS0.out, if_pos (.inr (of_decide_eq_false hdd))])
    clear hdd HS0
    refine Mix.more2 [11] (m := 1) rfl (by kernel_rfl) (by kernel_rfl) inv ⟨⟨_, HB12.out⟩, rfl⟩ (Mix.picks_cons rfl Mix.picks_end) ?_
    repeat (go_big_quiet_step (fail))
    refine wpQuiet_nil ?_
    clear inv
    intro inv
    refine sink_last (by kernel_rfl) rfl (by kernel_rfl) (fun K hK => ?_)
    have HKK := Lib.hid hK
    clear hK
    go_simp
    refine HKK.out _ _ ⟨rfl, ?_⟩
    clear HKK inv hS
    clear a1 q1
    go_wp2
    refine bodyPost_ret (results_none rfl _ _ _) rfl ?_
    exact ⟨rfl, h, by rw [HS.out]; exact HR2.out, PS.still HB2.out, Nat.le_add_right _ _⟩
  | true =>
  have HIN := Lib.hid (of_decide_eq_true hdd)
  clear hdd
  refine Mix.more2 [11] (m := 1) rfl (by kernel_rfl) (by kernel_rfl) inv ⟨⟨_, HB12.out⟩, rfl⟩ (Mix.picks_cons rfl Mix.picks_end) ?_
  repeat (go_big_quiet_step (fail))
  refine wpQuiet_nil ?_
  clear inv
  intro inv
  refine sink_last (by kernel_rfl) rfl (by kernel_rfl) (fun K hK => ?_)
  have HKK := Lib.hid hK
  clear hK
  go_simp
  refine HKK.out _ _ ⟨rfl, ?_⟩
  clear HKK inv hS
  clear a1 q1 d1 HHS HB12 HB1 HR1 HX1
  have HS1 := Lib.hid HS0.out
  rw [if_neg (fun e => e.elim (fun e => e HRO.out) (fun e => e HIN.out))] at HS1
  have hid := HBB.out.othId _ HIN.out
  have HPE := Lib.hid (rf_peer m.fr HR2.out HBB.out hid.1 hid.2.1)
  have HKF : Hid ((s.know m.fr).out = s.out ∧ (s.know m.fr).last = s.last ∧ pget (s.know m.fr).ps m.fr = some ((s.know m.fr).pr m.fr) ∧ RB M N (s.know m.fr)) := Lib.hid ⟨know_nd s m.fr, (know_last s m.fr).1, know_pr s m.fr, HBB.out.know hid.1 hid.2.1⟩
  have HID := Lib.hid hid
  have a1 := HX2.out.1 1 _ rfl
  clear hid HS0 HON
  rw [← HKF.out.2.1] at HS1
  have HHD : Hid ((s.know m.fr).heard m = if m.rd ≤ (s.know m.fr).round then { (s.know m.fr).pr m.fr with rd := max ((s.know m.fr).pr m.fr).rd m.rd } else (s.know m.fr).pr m.fr) := Lib.hid rfl
  generalize s.know m.fr = k at *
  go_wp2_with fail
  with_reducible refine (HPE.out).mono ?_
  rintro e W3 ⟨pb, rfl, h3, hr3, hx3, hp3, hm3⟩
  have HP3 := Lib.hid ((PS.still HB2.out).trans hp3)
  have HPX3 := Lib.hid hx3
  have HM3 := Lib.hid hm3.mh
  have HX3 := Lib.hid (HX2.out.keep hp3.1 (fun e => by have := HLT.out _ e; have := HB1E.out; omega))
  have HR3 := Lib.hid hr3
  have HLT3 : Hid (¬ Fo rb h3 b1) := Lib.hid (hp3.off HX2.out.2.2 (fun e => by have := HLT.out _ e; have := HB1E.out; omega))
  clear hr3 hx3 hp3 hm3 HPE HR2 HX2 HB2 a1
  (try clear W2)
  have a8 : ∀ q : Later W3, q.1.cell? ⟨b1, 8, none⟩ = some (.bool m.ok) := fun q => (HX3.out.below q.2).1 8 _ rfl
  have a4 : ∀ q : Later W3, q.1.cell? ⟨b1, 4, none⟩ = some (.int .i64 m.ix) := fun q => (HX3.out.below q.2).1 4 _ rfl
  have HLA : Hid (∀ q : Later W3, Calls Tryz.prog 94 #[.pointer (some ⟨rb, 0, none⟩)] q.1 fun e w' => e = .returned (.int .i64 k.last) ∧ Below q.1.heap.size q.1 w') := Lib.hid (fun q => rf_last (HR3.out.below q.2))
  go_upto_region 3 with fail
  go_cut [36] (fun s36 wx => ∃ β : Bool, s36 = .bool β ∧ Hid (Below W3.heap.size W3 wx) ∧ Hid (Dec β (m.ok = true ∧ (m.ix < 0 ∨ k.last < m.ix))))
  case first =>
    cases hokb : decide (m.ok = true) with
    | false =>
      have hok : m.ok = false := by simpa using of_decide_eq_false hokb
      have HN : Hid (Dec false (m.ok = true ∧ (m.ix < 0 ∨ k.last < m.ix))) := Lib.hid (Dec.f (fun hc => by rw [hok] at hc; cases hc.1))
      rw [hok] at a8
      clear hok hokb
      go_wp2_with fail
      refine wp_region_later (by kernel_rfl) (by kernel_rfl) ?_
      repeat (go_big_quiet_step ((go_at_call 94; exact Calls.later_of (HLA.out _))))
      refine wpQuiet_nil ?_
      intro W4 hw'
      obtain ⟨⟨wq, hq⟩, hw''⟩ := hw'
      have hwe : W4 = wq := hw''
      clear hw''
      subst hwe
      have HB4 := Lib.hid hq
      clear hq
      go_wp2
      go_meet
      case rel => exact ⟨_, rfl, HB4, HN⟩
    | true =>
      have hok : m.ok = true := of_decide_eq_true hokb
      rw [hok] at a8
      have HOK := Lib.hid hok
      clear hok hokb
      by_cases hx0 : m.ix < 0
      · have d2 : decide (m.ix < 0) = true := decide_eq_true hx0
        have HN : Hid (Dec true (m.ok = true ∧ (m.ix < 0 ∨ k.last < m.ix))) := Lib.hid (Dec.t ⟨HOK.out, .inl hx0⟩)
        go_wp2_with fail
        refine wp_region_later (by kernel_rfl) (by kernel_rfl) ?_
        repeat (go_big_quiet_step ((go_at_call 94; exact Calls.later_of (HLA.out _))))
        refine wpQuiet_nil ?_
        intro W4 hw'
        obtain ⟨⟨wq, hq⟩, hw''⟩ := hw'
        have hwe : W4 = wq := hw''
        clear hw''
        subst hwe
        have HB4 := Lib.hid hq
        clear hq
        go_wp2
        go_meet
        case rel => exact ⟨_, rfl, HB4, HN⟩
      · have d2 : decide (m.ix < 0) = false := decide_eq_false hx0
        by_cases hxl2 : k.last < m.ix
        · have d3 : decide (k.last < m.ix) = true := decide_eq_true hxl2
          have HN : Hid (Dec true (m.ok = true ∧ (m.ix < 0 ∨ k.last < m.ix))) := Lib.hid (Dec.t ⟨HOK.out, .inr hxl2⟩)
          go_wp2_with fail
          refine wp_region_later (by kernel_rfl) (by kernel_rfl) ?_
          repeat (go_big_quiet_step ((go_at_call 94; exact Calls.later_of (HLA.out _))))
          refine wpQuiet_nil ?_
          intro W4 hw'
          obtain ⟨⟨wq, hq⟩, hw''⟩ := hw'
          have hwe : W4 = wq := hw''
          clear hw''
          subst hwe
          have HB4 := Lib.hid hq
          clear hq
          go_wp2
          go_meet
          case rel => exact ⟨_, rfl, HB4, HN⟩
        · have d3 : decide (k.last < m.ix) = false := decide_eq_false hxl2
          have HN : Hid (Dec false (m.ok = true ∧ (m.ix < 0 ∨ k.last < m.ix))) := Lib.hid (Dec.f (fun hc => hc.2.elim hx0 hxl2))
          go_wp2_with fail
          refine wp_region_later (by kernel_rfl) (by kernel_rfl) ?_
          repeat (go_big_quiet_step ((go_at_call 94; exact Calls.later_of (HLA.out _))))
          refine wpQuiet_nil ?_
          intro W4 hw'
          obtain ⟨⟨wq, hq⟩, hw''⟩ := hw'
          have hwe : W4 = wq := hw''
          clear hw''
          subst hwe
          have HB4 := Lib.hid hq
          clear hq
          go_wp2
          go_meet
          case rel => exact ⟨_, rfl, HB4, HN⟩
  case rest =>
  obtain ⟨β, rfl, HBW, HBE⟩ := hcut
  generalize wc = W4 at *
  have HX4 := Lib.hid (HX3.out.below HBW.out)
  have HR4 := Lib.hid (HR3.out.below HBW.out)
  have HP4 := Lib.hid (HP3.out.trans (PS.still HBW.out))
  clear a8 a4 HLA HX3 HR3 HP3 HBW
  (try clear W3)
  cases β with
  | true =>
    have HS : Hid (s.appRes m = k) := Lib.hid (by rw [HS1.out, if_pos (HBE.out.1 rfl)])
    go_wp2
    refine bodyPost_ret (results_none rfl _ _ _) rfl ?_
    exact ⟨rfl, h3, by rw [HS.out]; exact HR4.out, HP4.out, by rw [HM3.out]; exact Nat.le_add_right _ _⟩
  | false =>
  have hbe : ¬ (m.ok = true ∧ (m.ix < 0 ∨ k.last < m.ix)) := fun hc => by have := HBE.out.2 hc; cases this
  have HS2 := Lib.hid HS1.out
  rw [if_neg hbe] at HS2
  have HIX : Hid (m.ok = true → 0 ≤ m.ix ∧ m.ix ≤ k.last) := Lib.hid (fun hok => by
    constructor
    · by_cases h5 : m.ix < 0
      · exact absurd ⟨hok, .inl h5⟩ hbe
      · omega
    · by_cases h5 : k.last < m.ix
      · exact absurd ⟨hok, .inr h5⟩ hbe
      · omega)
  clear hbe HBE HS1
  have HNK := Lib.hid HKF.out.2.2.2.nd
  have HKH := Lib.hid (HKF.out.2.2.2.heard (m := m) HKF.out.2.2.1)
  have q8 : ∀ q : Later W4, q.1.cell? ⟨rb, 8, none⟩ = some (.int .i64 k.round) := HR4.out.q 8 rfl
  have a7 : ∀ q : Later W4, q.1.cell? ⟨b1, 7, none⟩ = some (.int .i64 m.rd) := fun q => (HX4.out.below q.2).1 7 _ rfl
  go_upto_region 4 with fail
  refine wp_region_later (by kernel_rfl) (by kernel_rfl) ?_
  repeat (go_big_quiet_step (fail))
  refine wpQuiet_nil ?_
  intro W5 hw'
  obtain ⟨⟨wq, hq⟩, hw''⟩ := hw'
  have hwe : W5 = wq := hw''
  clear hw''
  subst hwe
  have HX5 := Lib.hid (HX4.out.below hq)
  have HR5 := Lib.hid (HR4.out.below hq)
  have HP5 := Lib.hid (HP4.out.trans (PS.still hq))
  clear hq q8 a7 HX4 HR4 HP4
  (try clear W4)
  go_upto_if 43 with fail
  go_cut [] (fun wx => Hid (∃ h4, Rf rb base (k.setPr m.fr (k.heard m)) h4 wx ∧ (m.fr, k.heard m, pb) ∈ h4.ph ∧ PS rb h3 h4 W5 wx ∧ h4.mh = h3.mh))
  case first =>
    by_cases hrd : m.rd ≤ k.round
    · have d5 : decide (m.rd ≤ k.round) = true := decide_eq_true hrd
      have he : k.heard m = { k.pr m.fr with rd := max (k.pr m.fr).rd m.rd } := by rw [HHD.out, if_pos hrd]
      have hps := HR5.out.peerSet HNK.out HPX3.out (k.heard m) 2 (.int .i64 (max (k.pr m.fr).rd m.rd)) (by omega) (by rw [he]; rfl)
      have hbx := HR5.out.box HPX3.out
      have p2 := hbx.q.2.2
      have p2c := hbx.2.2.1
      have g2 := hbx.2.2.2 2 (by omega)
      have a7 : ∀ q : Later W5, q.1.cell? ⟨b1, 7, none⟩ = some (.int .i64 m.rd) := fun q => (HX5.out.below q.2).1 7 _ rfl
      dsimp only at p2 p2c g2
      have HF : Hid (∃ h4, Rf rb base (k.setPr m.fr (k.heard m)) h4 (W5.setCell ⟨pb, 2, none⟩ (.int .i64 (max (k.pr m.fr).rd m.rd))).drew ∧ (m.fr, k.heard m, pb) ∈ h4.ph ∧ PS rb h3 h4 W5 (W5.setCell ⟨pb, 2, none⟩ (.int .i64 (max (k.pr m.fr).rd m.rd))).drew ∧ h4.mh = h3.mh) := Lib.hid ⟨_, hps.1.below (Below.refl _ _).drew, phset_mem HPX3.out, hps.2.trans (PS.still (Below.refl _ _).drew), rfl⟩
      clear hps hbx he
      generalize k.pr m.fr = pp at *
      go_wp2_with fail
      refine Mix.region_mix (n := 10) (m := 4) (fun V => ∃ q : Later W5, V = q.1) [0, 1, 2, 3, 4, 5, 6] (by kernel_rfl) rfl rfl (by kernel_rfl) (by kernel_rfl) ⟨⟨_, (Below.refl _ _).drew⟩, rfl⟩ ?_
      repeat (refine Mix.picks_step rfl ?_; go_big_quiet_step (fail))
      refine Mix.picks_nil ?_
      intro inv
      refine sink_one (i := 7) (by kernel_rfl) rfl (by omega) inv (fun K hK => ?_)
      have HKK := Lib.hid hK
      clear hK
      go_simp
      refine HKK.out _ _ ⟨⟨_, (Below.refl _ _).drew⟩, rfl⟩ ?_
      clear HKK inv
      intro hS inv
      (try simp only [Act.put]); (try simp only [List.setIfInBounds_toArray]); (try simp only [List.set_cons_succ]); (try simp only [List.set_cons_zero])
      refine Mix.more2 [8, 9] (m := 1) rfl (by kernel_rfl) (by kernel_rfl) inv ⟨⟨_, (Below.refl _ _).drew⟩, rfl⟩ (Mix.picks_cons rfl (Mix.picks_cons rfl Mix.picks_end)) ?_
      repeat (go_big_quiet_step (fail))
      refine wpQuiet_nil ?_
      clear inv
      intro inv
      refine sink_last (by kernel_rfl) rfl (by kernel_rfl) (fun K hK => ?_)
      have HKK := Lib.hid hK
      clear hK
      go_simp
      refine HKK.out _ _ ⟨rfl, ?_⟩
      clear HKK inv hS
      go_wp2
      go_meet
      case rel => exact HF
    · have d5 : decide (m.rd ≤ k.round) = false := decide_eq_false hrd
      have he : k.heard m = k.pr m.fr := by rw [HHD.out, if_neg hrd]
      have HF : Hid (∃ h4, Rf rb base (k.setPr m.fr (k.heard m)) h4 W5 ∧ (m.fr, k.heard m, pb) ∈ h4.ph ∧ PS rb h3 h4 W5 W5 ∧ h4.mh = h3.mh) := Lib.hid ⟨h3, by rw [he, setPr_same HNK.out HKF.out.2.2.1]; exact HR5.out, by rw [he]; exact HPX3.out, PS.refl _ _, rfl⟩
      clear he
      have hrd2 : k.round < m.rd := by omega
      go_wp2
      go_meet
      case rel => exact HF
  case rest =>
  obtain ⟨h4, hr4, hx4, hp4, hm4⟩ := hcut.out
  generalize wc = W6 at *
  have HR6 := Lib.hid hr4
  have HPX6 := Lib.hid hx4
  have HP6 := Lib.hid (HP5.out.trans hp4)
  have HM6 := Lib.hid (hm4.trans HM3.out)
  have HX6 := Lib.hid (HX5.out.keep hp4.1 HLT3.out)
  have HLT4 := Lib.hid (hp4.off HX5.out.2.2 HLT3.out)
  have hpb1 : pb ≠ b1 := fun e => HLT3.out ⟨.peers, _, HPX3.out, e⟩
  have hpb1' : b1 ≠ pb := fun e => hpb1 e.symm
  have hbx := hr4.box hx4
  have HBX6 := Lib.hid hbx
  have HZB : Hid (∀ p' : Pr, (1 ≤ p'.nx ∧ p'.nx ≤ M + 1) → (0 ≤ p'.mt ∧ p'.mt ≤ M) → (0 ≤ p'.rd ∧ p'.rd ≤ 4611686018427387904) → RB M N (k.setPr m.fr p')) := Lib.hid (fun p' e1 e2 e3 => HKF.out.2.2.2.setPr e1 e2 e3)
  have HZN : Hid (((k.setPr m.fr (k.heard m)).ps.map (·.1)).Nodup) := Lib.hid (HZB.out _ HKH.out.1 HKH.out.2.1 HKH.out.2.2).nd
  have HZS : Hid (∀ p', (k.setPr m.fr (k.heard m)).setPr m.fr p' = k.setPr m.fr p') := Lib.hid (fun p' => setPr_setPr _ _ _ _)
  have HOT : Hid (∀ p', (k.setPr m.fr p').out.nd.length = s.out.nd.length) := Lib.hid (fun p' => by rw [show (k.setPr m.fr p').out = k.out from rfl, HKF.out.1])
  have hbig := HKF.out.2.2.2.big
  have htop := HKF.out.2.2.2.top
  have HAN : Hid (k.appNo m = (k.setPr m.fr { k.heard m with nx := max (max ((k.heard m).mt + 1) (backS (k.heard m) m.ix)) 1 }).send m.fr) := Lib.hid rfl
  have HAY : Hid (k.appYes m = if ((k.setPr m.fr { k.heard m with mt := max (k.heard m).mt m.ix, nx := max (k.heard m).nx (max (k.heard m).mt m.ix + 1) }).count).role = 2 ∧ (((k.setPr m.fr { k.heard m with mt := max (k.heard m).mt m.ix, nx := max (k.heard m).nx (max (k.heard m).mt m.ix + 1) }).count).pr m.fr).nx ≤ ((k.setPr m.fr { k.heard m with mt := max (k.heard m).mt m.ix, nx := max (k.heard m).nx (max (k.heard m).mt m.ix + 1) }).count).last then ((k.setPr m.fr { k.heard m with mt := max (k.heard m).mt m.ix, nx := max (k.heard m).nx (max (k.heard m).mt m.ix + 1) }).count).send m.fr else ((k.setPr m.fr { k.heard m with mt := max (k.heard m).mt m.ix, nx := max (k.heard m).nx (max (k.heard m).mt m.ix + 1) }).count)) := Lib.hid rfl
  clear hcut hr4 hx4 hp4 hm4 HP5 HR5 HX5 HPX3 HNK
  (try clear W5)
  generalize k.heard m = hd at *
  obtain ⟨nx, mt, rd⟩ := hd
  have hkh := HKH.out
  dsimp only at hkh hbx HBX6 HAN HAY
  have p0 := hbx.1
  have p1 := hbx.2.1
  have p2 := hbx.2.2.1
  have g0 := hbx.2.2.2 0 (by omega)
  have g1 := hbx.2.2.2 1 (by omega)
  dsimp only at p0 p1 p2 g0 g1
  have a8 := HX6.out.1 8 _ rfl
  have a4 := HX6.out.1 4 _ rfl
  have a1 := HX6.out.1 1 _ rfl
  clear hbx
  cases hok : m.ok with
  | false =>
    rw [hok] at a8
    have HS := Lib.hid HS2.out
    rw [if_pos hok, HAN.out] at HS
    have hw1 : IntKind.i64.wrap (nx - 1) = nx - 1 := IntWalk.i64_in _ (by omega)
    have hw2 : IntKind.i64.wrap (mt + 1) = mt + 1 := IntWalk.i64_in _ (by omega)
    clear hok HS2 HAY HAN
    go_upto_if 65 with fail
    go_cut [5] (fun s5 wx => s5 = .int .i64 (backS ⟨nx, mt, rd⟩ m.ix) ∧ wx = W6)
    case first =>
      by_cases hlt : m.ix < nx - 1
      · have d6 : decide (m.ix < nx - 1) = true := decide_eq_true hlt
        have hw3 : IntKind.i64.wrap (m.ix + 1) = m.ix + 1 := IntWalk.i64_in _ (by omega)
        have HE : Hid (backS ⟨nx, mt, rd⟩ m.ix = min (m.ix + 1) (nx - 1)) := Lib.hid (by unfold backS; rw [if_pos hlt])
        go_wp2
        go_meet
        case rel => exact ⟨by rw [HE.out], rfl⟩
      · have d6 : decide (m.ix < nx - 1) = false := decide_eq_false hlt
        have HE : Hid (backS ⟨nx, mt, rd⟩ m.ix = nx - 1) := Lib.hid (by unfold backS; rw [if_neg hlt])
        have hlt2 : nx - 1 ≤ m.ix := by omega
        go_wp2
        go_meet
        case rel => exact ⟨by rw [HE.out], rfl⟩
    case rest =>
    obtain ⟨rfl, hwc⟩ := hcut
    subst hwc
    have hbk : backS ⟨nx, mt, rd⟩ m.ix ≤ nx - 1 := by
      unfold backS
      split <;> dsimp only <;> omega
    generalize backS ⟨nx, mt, rd⟩ m.ix = bk at *
    generalize wc = W6 at *
    have HSN : Hid (∀ y : Int, y = max (max (mt + 1) bk) 1 → Calls Tryz.prog 103 #[.pointer (some ⟨rb, 0, none⟩), .int .i64 m.fr] (W6.setCell ⟨pb, 0, none⟩ (.int .i64 y)) fun e w' => e = .returned (.tuple #[]) ∧ ∃ h', Rf rb base (s.appRes m) h' w' ∧ PS rb h h' w w' ∧ h'.mh.length ≤ h.mh.length + 1) := Lib.hid (fun y hy => by
      have hps := HR6.out.peerSet HZN.out HPX6.out ⟨max (max (mt + 1) bk) 1, mt, rd⟩ 0 (.int .i64 y) (by omega) (by rw [hy]; rfl)
      refine (rf_send m.fr (by rw [← HZS.out]; exact hps.1) (HZB.out ⟨max (max (mt + 1) bk) 1, mt, rd⟩ ⟨by show 1 ≤ max _ _; omega, by show max _ _ ≤ _; omega⟩ hkh.2.1 hkh.2.2) HID.out.1 HID.out.2.1 (by show h4.mh.length ≤ _; rw [HM6.out]; omega) (by rw [HOT.out]; omega)).mono ?_
      rintro e w8 ⟨rfl, h8, hr8, hp8, hl8⟩
      refine ⟨rfl, h8, by rw [HS.out]; exact hr8, (HP6.out.trans hps.2).trans hp8, ?_⟩
      rw [hl8]
      show h4.mh.length + 1 ≤ _
      rw [HM6.out]
      exact Nat.le_refl _)
    clear hbk HR6 HPX6 HP6 HS
    go_wp2_with fail
    all_goals
      with_reducible refine (HSN.out _ ?hy).mono ?_
      case hy => omega
      rintro e w8 ⟨rfl, h8, hr8, hp8, hl8⟩
      have HF := Lib.hid (And.intro hr8 (And.intro hp8 hl8))
      clear hr8 hp8 hl8
      go_wp2
      refine bodyPost_ret (results_none rfl _ _ _) rfl ?_
      exact ⟨rfl, h8, HF.out.1, HF.out.2.1, HF.out.2.2⟩
  | true =>
    rw [hok] at a8
    have hix := HIX.out hok
    have HS := Lib.hid HS2.out
    rw [if_neg (by rw [hok]; decide), HAY.out] at HS
    clear hok HS2 HAY HAN
    obtain ⟨mx, hmx⟩ : ∃ mx, mx = max mt m.ix := ⟨_, rfl⟩
    obtain ⟨nn, hnn⟩ : ∃ nn, nn = max nx (mx + 1) := ⟨_, rfl⟩
    rw [← hmx, ← hnn] at HS
    have hmb : (0 ≤ mx ∧ mx ≤ M) ∧ (1 ≤ nn ∧ nn ≤ M + 1) := by omega
    have hps := HR6.out.peerSet HZN.out HPX6.out ⟨nx, mx, rd⟩ 1 (.int .i64 mx) (by omega) rfl
    have HR7 := Lib.hid (hps.1.below (Below.refl _ _).drew)
    rw [HZS.out] at HR7
    have HP7 := Lib.hid (hps.2.trans (PS.still (Below.refl _ (W6.setCell ⟨pb, 1, none⟩ (.int .i64 mx))).drew))
    have HX7 := Lib.hid (HX6.out.keep HP7.out.1 HLT4.out)
    have HLT7 := Lib.hid (HP7.out.off HX6.out.2.2 HLT4.out)
    have q1 := HBX6.out.q.2.1
    have r4 : ∀ q : Later W6, q.1.cell? ⟨b1, 4, none⟩ = some (.int .i64 m.ix) := fun q => (HX6.out.below q.2).1 4 _ rfl
    have HMX := Lib.hid hmx
    dsimp only at q1
    clear hps
    go_wp2_with fail
    refine Mix.region_mix (n := 10) (m := 4) (fun V => ∃ q : Later W6, V = q.1) [0, 1, 2, 3, 4, 5, 6] (by kernel_rfl) rfl rfl (by kernel_rfl) (by kernel_rfl) ⟨⟨_, (Below.refl _ _).drew⟩, rfl⟩ ?_
    repeat (refine Mix.picks_step rfl ?_; go_big_quiet_step (fail))
    refine Mix.picks_nil ?_
    intro inv
    refine sink_one (i := 7) (by kernel_rfl) rfl (by omega) inv (fun K hK => ?_)
    have HKK := Lib.hid hK
    clear hK
    go_simp
    refine HKK.out _ _ ⟨⟨_, (Below.refl _ _).drew⟩, rfl⟩ ?_
    clear HKK inv
    intro hS inv
    (try simp only [Act.put]); (try simp only [List.setIfInBounds_toArray]); (try simp only [List.set_cons_succ]); (try simp only [List.set_cons_zero])
    refine Mix.more2 [8, 9] (m := 1) rfl (by kernel_rfl) (by kernel_rfl) inv ⟨⟨_, (Below.refl _ _).drew⟩, rfl⟩ (Mix.picks_cons rfl (Mix.picks_cons rfl Mix.picks_end)) ?_
    repeat (go_big_quiet_step (fail))
    refine wpQuiet_nil ?_
    clear inv
    intro inv
    refine sink_last (by kernel_rfl) rfl (by kernel_rfl) (fun K hK => ?_)
    have HKK := Lib.hid hK
    clear hK
    go_simp
    refine HKK.out _ _ ⟨rfl, ?_⟩
    clear HKK inv hS
    rw [← HMX.out]
    clear q1 r4 p0 p1 p2 g0 g1 a8 a4 a1 hmx
    have hpx7 : (m.fr, (⟨nx, mx, rd⟩ : Pr), pb) ∈ phset h4.ph m.fr ⟨nx, mx, rd⟩ := phset_mem HPX6.out
    have HML7 : Hid (({ h4 with ph := phset h4.ph m.fr ⟨nx, mx, rd⟩ } : Hd).mh = h.mh) := Lib.hid HM6.out
    have HPX7 : Hid ((m.fr, (⟨nx, mx, rd⟩ : Pr), pb) ∈ ({ h4 with ph := phset h4.ph m.fr ⟨nx, mx, rd⟩ } : Hd).ph) := Lib.hid hpx7
    generalize ({ h4 with ph := phset h4.ph m.fr ⟨nx, mx, rd⟩ } : Hd) = h7 at *
    have HPP7 := Lib.hid (HP6.out.trans HP7.out)
    clear HR6 HPX6 HP6 HX6 HBX6 HP7 hpx7
    generalize (W6.setCell ⟨pb, 1, none⟩ (.int .i64 mx)).drew = W7 at *
    have HZN7 : Hid (((k.setPr m.fr ⟨nx, mx, rd⟩).ps.map (·.1)).Nodup) := Lib.hid (HZB.out ⟨nx, mx, rd⟩ hkh.1 hmb.1 hkh.2.2).nd
    have hps := HR7.out.peerSet HZN7.out HPX7.out ⟨nn, mx, rd⟩ 0 (.int .i64 nn) (by omega) rfl
    have HR8 := Lib.hid (hps.1.below (Below.refl _ _).drew)
    rw [setPr_setPr] at HR8
    have HP8 := Lib.hid (hps.2.trans (PS.still (Below.refl _ (W7.setCell ⟨pb, 0, none⟩ (.int .i64 nn))).drew))
    have HX8 := Lib.hid (HX7.out.keep HP8.out.1 HLT7.out)
    have HLT8 := Lib.hid (HP8.out.off HX7.out.2.2 HLT7.out)
    have hbx7 := HR7.out.box HPX7.out
    have q0 := hbx7.q.1
    have q1 := hbx7.q.2.1
    have p0 := hbx7.1
    have g0 := hbx7.2.2.2 0 (by omega)
    have hw1 : IntKind.i64.wrap (mx + 1) = mx + 1 := IntWalk.i64_in _ (by omega)
    have HNN := Lib.hid hnn
    dsimp only at q0 q1 p0 g0
    clear hps hbx7
    go_wp2_with fail
    refine Mix.region_mix (n := 13) (m := 4) (fun V => ∃ q : Later W7, V = q.1) [0, 1, 2, 3, 4, 5, 6, 7, 8, 9] (by kernel_rfl) rfl rfl (by kernel_rfl) (by kernel_rfl) ⟨⟨_, (Below.refl _ _).drew⟩, rfl⟩ ?_
    repeat (refine Mix.picks_step rfl ?_; go_big_quiet_step (fail))
    refine Mix.picks_nil ?_
    intro inv
    refine sink_one (i := 10) (by kernel_rfl) rfl (by omega) inv (fun K hK => ?_)
    have HKK := Lib.hid hK
    clear hK
    go_simp
    refine HKK.out _ _ ⟨⟨_, (Below.refl _ _).drew⟩, rfl⟩ ?_
    clear HKK inv
    intro hS inv
    (try simp only [Act.put]); (try simp only [List.setIfInBounds_toArray]); (try simp only [List.set_cons_succ]); (try simp only [List.set_cons_zero])
    refine Mix.more2 [11, 12] (m := 1) rfl (by kernel_rfl) (by kernel_rfl) inv ⟨⟨_, (Below.refl _ _).drew⟩, rfl⟩ (Mix.picks_cons rfl (Mix.picks_cons rfl Mix.picks_end)) ?_
    repeat (go_big_quiet_step (fail))
    refine wpQuiet_nil ?_
    clear inv
    intro inv
    refine sink_last (by kernel_rfl) rfl (by kernel_rfl) (fun K hK => ?_)
    have HKK := Lib.hid hK
    clear hK
    go_simp
    refine HKK.out _ _ ⟨rfl, ?_⟩
    clear HKK inv hS
    rw [← HNN.out]
    clear q0 q1 p0 g0 hw1 hnn
    have hpx8 : (m.fr, (⟨nn, mx, rd⟩ : Pr), pb) ∈ phset h7.ph m.fr ⟨nn, mx, rd⟩ := phset_mem HPX7.out
    have HML8 : Hid (({ h7 with ph := phset h7.ph m.fr ⟨nn, mx, rd⟩ } : Hd).mh = h.mh) := Lib.hid HML7.out
    have HPX8 : Hid ((m.fr, (⟨nn, mx, rd⟩ : Pr), pb) ∈ ({ h7 with ph := phset h7.ph m.fr ⟨nn, mx, rd⟩ } : Hd).ph) := Lib.hid hpx8
    generalize ({ h7 with ph := phset h7.ph m.fr ⟨nn, mx, rd⟩ } : Hd) = h8 at *
    have HPP8 := Lib.hid (HPP7.out.trans HP8.out)
    clear HR7 HPX7 HPP7 HX7 HP8 hpx8 HLT7 HLT4
    generalize (W7.setCell ⟨pb, 0, none⟩ (.int .i64 nn)).drew = W8 at *
    have HBZ := Lib.hid (HZB.out ⟨nn, mx, rd⟩ hmb.2 hmb.1 hkh.2.2)
    have HND : Hid ((k.setPr m.fr ⟨nn, mx, rd⟩).count.out.nd.length = s.out.nd.length) := Lib.hid (by rw [count_nd]; exact HOT.out _)
    have HCT := Lib.hid (rf_count HR8.out HBZ.out)
    have HBC := Lib.hid HBZ.out.count
    generalize (k.setPr m.fr ⟨nn, mx, rd⟩).count = c at *
    clear HBZ HR8
    go_wp2_with fail
    with_reducible refine (HCT.out).mono ?_
    rintro e W9 ⟨rfl, h9, hr9, hp9, hm9⟩
    have HR9 := Lib.hid hr9
    have HM9 := Lib.hid (hm9.mh.trans HML8.out)
    have hx9 := hm9.ph _ HPX8.out
    have HP9 := Lib.hid (HPP8.out.trans hp9)
    have HX9 := Lib.hid (HX8.out.keep hp9.1 HLT8.out)
    have hpr : (c.pr m.fr).nx = nn := by
      unfold RS.pr
      rw [hr9.prE HBC.out.nd hx9]
      rfl
    rw [hpr] at HS
    have q0 := (hr9.box hx9).q.1
    dsimp only at q0
    have q1 : ∀ q : Later W9, q.1.cell? ⟨rb, 1, none⟩ = some (.int .i64 c.role) := hr9.q 1 rfl
    have HLA : Hid (∀ q : Later W9, Calls Tryz.prog 94 #[.pointer (some ⟨rb, 0, none⟩)] q.1 fun e w' => e = .returned (.int .i64 c.last) ∧ Below q.1.heap.size q.1 w') := Lib.hid (fun q => rf_last (hr9.below q.2))
    clear hr9 hp9 hm9 hx9 hpr HCT HX8 HLT8 HPP8 HPX8 HML8
    (try clear W8)
    by_cases hcr : c.role = 2
    · have d7 : (c.role == 2) = true := by simp [hcr]
      by_cases hnl : nn ≤ c.last
      · have d8 : decide (nn ≤ c.last) = true := decide_eq_true hnl
        have HSF : Hid (s.appRes m = c.send m.fr) := Lib.hid (by rw [HS.out, if_pos ⟨hcr, hnl⟩])
        go_wp2_with fail
        refine wp_region_later (by kernel_rfl) (by kernel_rfl) ?_
        repeat (go_big_quiet_step ((go_at_call 94; exact Calls.later_of (HLA.out _))))
        refine wpQuiet_nil ?_
        intro W10 hw'
        obtain ⟨⟨wq, hq⟩, hw''⟩ := hw'
        have hwe : W10 = wq := hw''
        clear hw''
        subst hwe
        have a1 := (HX9.out.below hq).1 1 _ rfl
        have HSN := Lib.hid (rf_send m.fr (HR9.out.below hq) HBC.out HID.out.1 HID.out.2.1 (by rw [HM9.out]; omega) (by rw [HND.out]; omega))
        have HP10 := Lib.hid (HP9.out.trans (PS.still hq))
        clear hq q0 q1 HLA
        go_wp2_with fail
        with_reducible refine (HSN.out).mono ?_
        rintro e w8 ⟨rfl, h10, hr10, hp10, hl10⟩
        have HF := Lib.hid (And.intro hr10 (And.intro (HP10.out.trans hp10) hl10))
        clear hr10 hp10 hl10
        go_wp2
        go_end0
        exact ⟨rfl, h10, by rw [HSF.out]; exact HF.out.1, HF.out.2.1, by rw [HF.out.2.2, HM9.out]; exact Nat.le_refl _⟩
      · have d8 : decide (nn ≤ c.last) = false := decide_eq_false hnl
        have hnl2 : c.last < nn := by omega
        have HSF : Hid (s.appRes m = c) := Lib.hid (by rw [HS.out, if_neg (fun e => hnl e.2)])
        go_wp2_with fail
        refine wp_region_later (by kernel_rfl) (by kernel_rfl) ?_
        repeat (go_big_quiet_step ((go_at_call 94; exact Calls.later_of (HLA.out _))))
        refine wpQuiet_nil ?_
        intro W10 hw'
        obtain ⟨⟨wq, hq⟩, hw''⟩ := hw'
        have hwe : W10 = wq := hw''
        clear hw''
        subst hwe
        have HF := Lib.hid (And.intro (HR9.out.below hq) (HP9.out.trans (PS.still hq)))
        clear hq q0 q1 HLA
        go_wp2
        go_end0
        exact ⟨rfl, h9, by rw [HSF.out]; exact HF.out.1, HF.out.2, by rw [HM9.out]; exact Nat.le_succ _⟩
    · have d7 : (c.role == 2) = false := by simp [hcr]
      have HSF : Hid (s.appRes m = c) := Lib.hid (by rw [HS.out, if_neg (fun e => hcr e.1)])
      go_wp2_with fail
      refine wp_region_later (by kernel_rfl) (by kernel_rfl) ?_
      repeat (go_big_quiet_step ((go_at_call 94; exact Calls.later_of (HLA.out _))))
      refine wpQuiet_nil ?_
      intro W10 hw'
      obtain ⟨⟨wq, hq⟩, hw''⟩ := hw'
      have hwe : W10 = wq := hw''
      clear hw''
      subst hwe
      have HF := Lib.hid (And.intro (HR9.out.below hq) (HP9.out.trans (PS.still hq)))
      clear hq q0 q1 HLA
      go_wp2
      go_end0
      exact ⟨rfl, h9, by rw [HSF.out]; exact HF.out.1, HF.out.2, by rw [HM9.out]; exact Nat.le_succ _⟩
end
end RF
end Go.Proofs.YtaodldagmmephaaGreat

/- raft: Step. -/
namespace Go.Proofs.YtaodldagmmephaaGreat
open Go.RowKit Go.Maps
namespace RF
instance (s : RS) (m : Mg) : Decidable (s.heeds m) := by unfold RS.heeds; infer_instance
/-- What Step makes of a core. -/
def RS.step (s : RS) (m : Mg) : RS := if s.heeds m then s.step0 m else s
section
variable {rb base : Nat} {s : RS} {h : Hd} {w : World} {M : Int} {N : Nat}
set_option maxHeartbeats 2000000 in
set_option maxRecDepth 100000 in
theorem rf_step (m : Mg) (x : Mx) (H : Rf rb base s h w) (B : RB M N s) (hM : M + (max m.en.length 1 : Nat) ≤ 4503599627370496) (hN : N + max m.en.length 1 ≤ 10000) (hvt : s.votes.length ≤ 900) (hcl : h.clean) (hout : s.out = ot0) (E : EnsAt rb h m x w) (hxl : -9223372036854775808 ≤ m.ix) (hxu : m.ix ≤ 9223372036854775807) :
    Calls Tryz.prog 18 #[.pointer (some ⟨rb, 0, none⟩), mxval m x] w (Ans rb base (s.step m) h w) := by
  have hb0 : Below w.heap.size w (w.alloc (.cells #[.int .i64 m.kd, .int .i64 m.fr, .int .i64 m.tq, .int .i64 m.tm, .int .i64 m.ix, .int .i64 m.lt, .int .i64 m.cm, .int .i64 m.rd, .bool m.ok, .bool x.dn, .slice x.pe m.en.length x.ce, .slice x.pm x.nm x.cm, .int .i64 x.of, .slice x.pp x.np x.cp] 48)) := (Below.refl _ w).alloc (Nat.le_refl _) _
  have X0 := CBox.fresh w [.int .i64 m.kd, .int .i64 m.fr, .int .i64 m.tq, .int .i64 m.tm, .int .i64 m.ix, .int .i64 m.lt, .int .i64 m.cm, .int .i64 m.rd, .bool m.ok, .bool x.dn, .slice x.pe m.en.length x.ce, .slice x.pm x.nm x.cm, .int .i64 x.of, .slice x.pp x.np x.cp] 48
  have hs0 : (w.alloc (.cells #[.int .i64 m.kd, .int .i64 m.fr, .int .i64 m.tq, .int .i64 m.tm, .int .i64 m.ix, .int .i64 m.lt, .int .i64 m.cm, .int .i64 m.rd, .bool m.ok, .bool x.dn, .slice x.pe m.en.length x.ce, .slice x.pm x.nm x.cm, .int .i64 x.of, .slice x.pp x.np x.cp] 48)).heap.size = w.heap.size + 1 := World.size_alloc _ _
  have hb1 : Below (w.alloc (.cells #[.int .i64 m.kd, .int .i64 m.fr, .int .i64 m.tq, .int .i64 m.tm, .int .i64 m.ix, .int .i64 m.lt, .int .i64 m.cm, .int .i64 m.rd, .bool m.ok, .bool x.dn, .slice x.pe m.en.length x.ce, .slice x.pm x.nm x.cm, .int .i64 x.of, .slice x.pp x.np x.cp] 48)).heap.size (w.alloc (.cells #[.int .i64 m.kd, .int .i64 m.fr, .int .i64 m.tq, .int .i64 m.tm, .int .i64 m.ix, .int .i64 m.lt, .int .i64 m.cm, .int .i64 m.rd, .bool m.ok, .bool x.dn, .slice x.pe m.en.length x.ce, .slice x.pm x.nm x.cm, .int .i64 x.of, .slice x.pp x.np x.cp] 48)) ((w.alloc (.cells #[.int .i64 m.kd, .int .i64 m.fr, .int .i64 m.tq, .int .i64 m.tm, .int .i64 m.ix, .int .i64 m.lt, .int .i64 m.cm, .int .i64 m.rd, .bool m.ok, .bool x.dn, .slice x.pe m.en.length x.ce, .slice x.pm x.nm x.cm, .int .i64 x.of, .slice x.pp x.np x.cp] 48)).alloc (.cells #[.slice none 0 0, .bool false, .int .i64 0, .slice none 0 0] 37)) := (Below.refl _ _).alloc (Nat.le_refl _) _
  have X1 := CBox.fresh (w.alloc (.cells #[.int .i64 m.kd, .int .i64 m.fr, .int .i64 m.tq, .int .i64 m.tm, .int .i64 m.ix, .int .i64 m.lt, .int .i64 m.cm, .int .i64 m.rd, .bool m.ok, .bool x.dn, .slice x.pe m.en.length x.ce, .slice x.pm x.nm x.cm, .int .i64 x.of, .slice x.pp x.np x.cp] 48)) [.slice none 0 0, .bool false, .int .i64 0, .slice none 0 0] 37
  have hs1 : ((w.alloc (.cells #[.int .i64 m.kd, .int .i64 m.fr, .int .i64 m.tq, .int .i64 m.tm, .int .i64 m.ix, .int .i64 m.lt, .int .i64 m.cm, .int .i64 m.rd, .bool m.ok, .bool x.dn, .slice x.pe m.en.length x.ce, .slice x.pm x.nm x.cm, .int .i64 x.of, .slice x.pp x.np x.cp] 48)).alloc (.cells #[.slice none 0 0, .bool false, .int .i64 0, .slice none 0 0] 37)).heap.size = (w.alloc (.cells #[.int .i64 m.kd, .int .i64 m.fr, .int .i64 m.tq, .int .i64 m.tm, .int .i64 m.ix, .int .i64 m.lt, .int .i64 m.cm, .int .i64 m.rd, .bool m.ok, .bool x.dn, .slice x.pe m.en.length x.ce, .slice x.pm x.nm x.cm, .int .i64 x.of, .slice x.pp x.np x.cp] 48)).heap.size + 1 := World.size_alloc _ _
  have HH := Lib.hid H
  have hrl := H.rlt
  have HLT := Lib.hid (fun k (hk : Fo rb h k) => (H.lt hk).2)
  have HBB := Lib.hid B
  have HEE := Lib.hid E
  have HCL := Lib.hid hcl
  have HOU := Lib.hid hout
  have hms : h.mh.length = 0 := by rw [hcl.2.1]; rfl
  have hnd : s.out.nd.length = 0 := by rw [hout]; rfl
  have HS0 : Hid (s.step m = if s.heeds m then s.step0 m else s) := Lib.hid rfl
  have hMm : 1 ≤ max m.en.length 1 ∧ m.en.length ≤ max m.en.length 1 := by omega
  have HST0 : Hid (m.tm ≤ 1152921504606846976 → RB (M + (max m.en.length 1 : Nat)) (N + max m.en.length 1) (s.step0 m) ∧ (s.step0 m).out.nd.length ≤ 9) := Lib.hid (fun ht => by
    have := B.step0 m (max m.en.length 1) hMm.1 hMm.2 hM hN E.da ht
    rw [hnd] at this
    exact ⟨this.1, by omega⟩)
  unfold mxval
  clear H B hcl E hout
  go_enter Tryz.func18, Tryz.ntmps18
  go_upto_region 1 with fail
  dsimp only [List.toArray] at X0 X1
  generalize w.alloc (.cells #[.int .i64 m.kd, .int .i64 m.fr, .int .i64 m.tq, .int .i64 m.tm, .int .i64 m.ix, .int .i64 m.lt, .int .i64 m.cm, .int .i64 m.rd, .bool m.ok, .bool x.dn, .slice x.pe m.en.length x.ce, .slice x.pm x.nm x.cm, .int .i64 x.of, .slice x.pp x.np x.cp] 48) = Wa at *
  have X0 := X0.below hb1
  generalize Wa.alloc (.cells #[.slice none 0 0, .bool false, .int .i64 0, .slice none 0 0] 37) = W1 at *
  have HFIN : Hid (∀ (y : RS) (e : Ending) (w' W' : World), Ans rb base y h W1 e w' → Fr (fun k => k = Wa.heap.size) w' W' → Ans rb base y h w e W') := Lib.hid (fun y e w' W' hA hF => (Ans.boxed (HH.out.below hb0) hA hb1 hs1 hF).lower hb0)
  have HB1 := Lib.hid (hb0.trans (hb1.mono hb0.size))
  obtain ⟨b1, hb1e⟩ : ∃ b1, b1 = w.heap.size := ⟨_, rfl⟩
  obtain ⟨b2, hb2e⟩ : ∃ b2, b2 = Wa.heap.size := ⟨_, rfl⟩
  rw [← hb1e] at X0 hrl ⊢
  rw [← hb2e] at X1 HFIN
  have hb2' : b1 + 1 = b2 := by omega
  rw [hb2']
  have HE12 : Hid (b1 = w.heap.size ∧ b2 = w.heap.size + 1) := Lib.hid ⟨hb1e, by omega⟩
  have HNF : Hid (¬ Fo rb h b2) := Lib.hid (fun e => by have := HLT.out _ e; omega)
  have HNF1 : Hid (¬ Fo rb h b1) := Lib.hid (fun e => by have := HLT.out _ e; omega)
  have hn1 : b1 ≠ b2 := by omega
  have hn2 : b2 ≠ b1 := by omega
  have HX1 := Lib.hid X0
  have HX2 := Lib.hid X1
  have HR1 := Lib.hid (HH.out.below HB1.out)
  have HE1 := Lib.hid (HEE.out.below HB1.out)
  clear X0 X1 hb0 hb1 hs0 hs1 hb1e hb2e HEE
  have a0 : ∀ q : Later W1, q.1.cell? ⟨b1, 0, none⟩ = some (.int .i64 m.kd) := fun q => (HX1.out.below q.2).1 0 _ rfl
  have a1 : ∀ q : Later W1, q.1.cell? ⟨b1, 1, none⟩ = some (.int .i64 m.fr) := fun q => (HX1.out.below q.2).1 1 _ rfl
  have a2 : ∀ q : Later W1, q.1.cell? ⟨b1, 2, none⟩ = some (.int .i64 m.tq) := fun q => (HX1.out.below q.2).1 2 _ rfl
  have a3 : ∀ q : Later W1, q.1.cell? ⟨b1, 3, none⟩ = some (.int .i64 m.tm) := fun q => (HX1.out.below q.2).1 3 _ rfl
  have q0 : ∀ q : Later W1, q.1.cell? ⟨rb, 0, none⟩ = some (.int .i64 s.id) := HR1.out.q 0 rfl
  have HNO : Hid (∀ q : Later W1, Calls Tryz.prog 46 #[.pointer (some ⟨rb, 0, none⟩)] q.1 fun e w' => e = .returned (.bool false) ∧ w' = q.1) := Lib.hid (fun q => rf_none (HR1.out.below q.2))
  have HII : Hid (∀ q : Later W1, Calls Tryz.prog 42 #[.int .i64 m.fr] q.1 fun e w' => e = .returned (.bool (decide (1 ≤ m.fr ∧ m.fr ≤ 64))) ∧ w' = q.1) := Lib.hid (fun q => is_id m.fr q.1)
  go_cut [50] (fun s50 wx => ∃ β : Bool, s50 = .bool β ∧ Hid (Below W1.heap.size W1 wx) ∧ Hid (Dec β (¬ s.heeds m)))
  case first =>
    by_cases ht1 : m.tq = s.id
    case neg =>
      have HN : Hid (Dec true (¬ s.heeds m)) := Lib.hid (Dec.t (fun h => ht1 (h.1)))
      have dd1 : (m.tq != s.id) = true := by simp [ht1]
      go_wp2_with fail
      refine wp_region_later (by kernel_rfl) (by kernel_rfl) ?_
      repeat (go_big_quiet_step ((first | (go_at_call 46; exact Calls.later_same (HNO.out _)) | (go_at_call 42; exact Calls.later_same (HII.out _)))))
      refine wpQuiet_nil ?_
      intro W2 hw'
      obtain ⟨⟨wq, hq⟩, hw''⟩ := hw'
      have hwe : W2 = wq := hw''
      clear hw''
      subst hwe
      have HB2 := Lib.hid hq
      clear hq
      go_wp2
      go_meet
      case rel => exact ⟨_, rfl, HB2, HN⟩
    have dd1 : (m.tq != s.id) = false := by simp [ht1]
    have HT1 := Lib.hid ht1
    clear ht1
    by_cases ht2 : 1 ≤ m.fr ∧ m.fr ≤ 64
    case neg =>
      have HN : Hid (Dec true (¬ s.heeds m)) := Lib.hid (Dec.t (fun h => ht2 (⟨h.2.1, h.2.2.1⟩)))
      rw [decide_eq_false ht2] at HII
      go_wp2_with fail
      refine wp_region_later (by kernel_rfl) (by kernel_rfl) ?_
      repeat (go_big_quiet_step ((first | (go_at_call 46; exact Calls.later_same (HNO.out _)) | (go_at_call 42; exact Calls.later_same (HII.out _)))))
      refine wpQuiet_nil ?_
      intro W2 hw'
      obtain ⟨⟨wq, hq⟩, hw''⟩ := hw'
      have hwe : W2 = wq := hw''
      clear hw''
      subst hwe
      have HB2 := Lib.hid hq
      clear hq
      go_wp2
      go_meet
      case rel => exact ⟨_, rfl, HB2, HN⟩
    rw [decide_eq_true ht2] at HII
    by_cases ht3 : m.fr ≠ s.id
    case neg =>
      have HN : Hid (Dec true (¬ s.heeds m)) := Lib.hid (Dec.t (fun h => ht3 (h.2.2.2.1)))
      have dd3 : (m.fr == s.id) = true := by have : m.fr = s.id := Decidable.of_not_not ht3; simp [this]
      go_wp2_with fail
      refine wp_region_later (by kernel_rfl) (by kernel_rfl) ?_
      repeat (go_big_quiet_step ((first | (go_at_call 46; exact Calls.later_same (HNO.out _)) | (go_at_call 42; exact Calls.later_same (HII.out _)))))
      refine wpQuiet_nil ?_
      intro W2 hw'
      obtain ⟨⟨wq, hq⟩, hw''⟩ := hw'
      have hwe : W2 = wq := hw''
      clear hw''
      subst hwe
      have HB2 := Lib.hid hq
      clear hq
      go_wp2
      go_meet
      case rel => exact ⟨_, rfl, HB2, HN⟩
    have dd3 : (m.fr == s.id) = false := by simp [ht3]
    by_cases ht4 : 1 ≤ m.kd
    case neg =>
      have HN : Hid (Dec true (¬ s.heeds m)) := Lib.hid (Dec.t (fun h => ht4 (h.2.2.2.2.1)))
      have dd4 : decide (m.kd < 1) = true := decide_eq_true (by omega)
      go_wp2_with fail
      refine wp_region_later (by kernel_rfl) (by kernel_rfl) ?_
      repeat (go_big_quiet_step ((first | (go_at_call 46; exact Calls.later_same (HNO.out _)) | (go_at_call 42; exact Calls.later_same (HII.out _)))))
      refine wpQuiet_nil ?_
      intro W2 hw'
      obtain ⟨⟨wq, hq⟩, hw''⟩ := hw'
      have hwe : W2 = wq := hw''
      clear hw''
      subst hwe
      have HB2 := Lib.hid hq
      clear hq
      go_wp2
      go_meet
      case rel => exact ⟨_, rfl, HB2, HN⟩
    have dd4 : decide (m.kd < 1) = false := decide_eq_false (by omega)
    by_cases ht5 : m.kd ≤ 6
    case neg =>
      have HN : Hid (Dec true (¬ s.heeds m)) := Lib.hid (Dec.t (fun h => ht5 (h.2.2.2.2.2.1)))
      have dd5 : decide (6 < m.kd) = true := decide_eq_true (by omega)
      go_wp2_with fail
      refine wp_region_later (by kernel_rfl) (by kernel_rfl) ?_
      repeat (go_big_quiet_step ((first | (go_at_call 46; exact Calls.later_same (HNO.out _)) | (go_at_call 42; exact Calls.later_same (HII.out _)))))
      refine wpQuiet_nil ?_
      intro W2 hw'
      obtain ⟨⟨wq, hq⟩, hw''⟩ := hw'
      have hwe : W2 = wq := hw''
      clear hw''
      subst hwe
      have HB2 := Lib.hid hq
      clear hq
      go_wp2
      go_meet
      case rel => exact ⟨_, rfl, HB2, HN⟩
    have dd5 : decide (6 < m.kd) = false := decide_eq_false (by omega)
    by_cases ht6 : 1 ≤ m.tm
    case neg =>
      have HN : Hid (Dec true (¬ s.heeds m)) := Lib.hid (Dec.t (fun h => ht6 (h.2.2.2.2.2.2.1)))
      have dd6 : decide (m.tm < 1) = true := decide_eq_true (by omega)
      go_wp2_with fail
      refine wp_region_later (by kernel_rfl) (by kernel_rfl) ?_
      repeat (go_big_quiet_step ((first | (go_at_call 46; exact Calls.later_same (HNO.out _)) | (go_at_call 42; exact Calls.later_same (HII.out _)))))
      refine wpQuiet_nil ?_
      intro W2 hw'
      obtain ⟨⟨wq, hq⟩, hw''⟩ := hw'
      have hwe : W2 = wq := hw''
      clear hw''
      subst hwe
      have HB2 := Lib.hid hq
      clear hq
      go_wp2
      go_meet
      case rel => exact ⟨_, rfl, HB2, HN⟩
    have dd6 : decide (m.tm < 1) = false := decide_eq_false (by omega)
    by_cases ht7 : m.tm ≤ 1152921504606846976
    case neg =>
      have HN : Hid (Dec true (¬ s.heeds m)) := Lib.hid (Dec.t (fun h => ht7 (h.2.2.2.2.2.2.2)))
      have dd7 : decide (1152921504606846976 < m.tm) = true := decide_eq_true (by omega)
      go_wp2_with fail
      refine wp_region_later (by kernel_rfl) (by kernel_rfl) ?_
      repeat (go_big_quiet_step ((first | (go_at_call 46; exact Calls.later_same (HNO.out _)) | (go_at_call 42; exact Calls.later_same (HII.out _)))))
      refine wpQuiet_nil ?_
      intro W2 hw'
      obtain ⟨⟨wq, hq⟩, hw''⟩ := hw'
      have hwe : W2 = wq := hw''
      clear hw''
      subst hwe
      have HB2 := Lib.hid hq
      clear hq
      go_wp2
      go_meet
      case rel => exact ⟨_, rfl, HB2, HN⟩
    have dd7 : decide (1152921504606846976 < m.tm) = false := decide_eq_false (by omega)
    have HN : Hid (Dec false (¬ s.heeds m)) := Lib.hid (Dec.f (fun h => h ⟨HT1.out, ht2.1, ht2.2, ht3, ht4, ht5, ht6, ht7⟩))
    go_wp2_with fail
    refine wp_region_later (by kernel_rfl) (by kernel_rfl) ?_
    repeat (go_big_quiet_step ((first | (go_at_call 46; exact Calls.later_same (HNO.out _)) | (go_at_call 42; exact Calls.later_same (HII.out _)))))
    refine wpQuiet_nil ?_
    intro W2 hw'
    obtain ⟨⟨wq, hq⟩, hw''⟩ := hw'
    have hwe : W2 = wq := hw''
    clear hw''
    subst hwe
    have HB2 := Lib.hid hq
    clear hq
    go_wp2
    go_meet
    case rel => exact ⟨_, rfl, HB2, HN⟩
  case rest =>
  obtain ⟨β, rfl, HBW, HBE⟩ := hcut
  generalize wc = W2 at *
  have HXA := Lib.hid (HX1.out.below HBW.out)
  have HXB := Lib.hid (HX2.out.below HBW.out)
  have HR2 := Lib.hid (HR1.out.below HBW.out)
  have HE2 := Lib.hid (HE1.out.below HBW.out)
  have HP2 : Hid (PS rb h h W1 W2) := Lib.hid (PS.still HBW.out)
  have HB2 := Lib.hid (HB1.out.trans (HBW.out.mono HB1.out.size))
  clear a0 a1 a2 a3 q0 HNO HII
  cases β with
  | true =>
    have HS : Hid (s.step m = s) := Lib.hid (by rw [HS0.out, if_neg (HBE.out.1 rfl)])
    have t0 := HXB.out.1 0 _ rfl
    have t1 := HXB.out.1 1 _ rfl
    have t2 := HXB.out.1 2 _ rfl
    have t3 := HXB.out.1 3 _ rfl
    have u0 := HXB.out.2.1 0 (by show 0 < 4; omega)
    have u1 := HXB.out.2.1 1 (by show 1 < 4; omega)
    have u2 := HXB.out.2.1 2 (by show 2 < 4; omega)
    have u3 := HXB.out.2.1 3 (by show 3 < 4; omega)
    go_wp2_with fail
    refine bodyPost_ret (results_cell1 rfl _ _ _ ⟨b2, 0, none⟩ (.agg #[.slice none 0 0, .bool false, .int .i64 0, .slice none 0 0]) rfl (by go_simp)) rfl ?_
    rw [HS.out]
    exact Ans.still HH.out HCL.out HOU.out (((((HB2.out.setCell (p := ⟨b2, 0, none⟩) (by have := HE12.out; show w.heap.size ≤ b2; omega) _).setCell (p := ⟨b2, 1, none⟩) (by have := HE12.out; show w.heap.size ≤ b2; omega) _).setCell (p := ⟨b2, 2, none⟩) (by have := HE12.out; show w.heap.size ≤ b2; omega) _).setCell (p := ⟨b2, 3, none⟩) (by have := HE12.out; show w.heap.size ≤ b2; omega) _))
  | false =>
  have hhe : s.heeds m := by
    by_cases h9 : s.heeds m
    · exact h9
    · have := HBE.out.2 h9; cases this
  have HHE := Lib.hid hhe
  have HS1 : Hid (s.step m = s.step0 m) := Lib.hid (by rw [HS0.out, if_pos hhe])
  have HSB := Lib.hid (HST0.out hhe.2.2.2.2.2.2.2)
  have hkd : 1 ≤ m.kd ∧ m.kd ≤ 6 := ⟨hhe.2.2.2.2.1, hhe.2.2.2.2.2.1⟩
  clear hhe HBE HS0 HST0 HR1 HX1 HE1 HBW HB2
  have a3 : ∀ q : Later W2, q.1.cell? ⟨b1, 3, none⟩ = some (.int .i64 m.tm) := fun q => (HXA.out.below q.2).1 3 _ rfl
  have q3 : ∀ q : Later W2, q.1.cell? ⟨rb, 3, none⟩ = some (.int .i64 s.term) := HR2.out.q 3 rfl
  by_cases hlt : m.tm < s.term
  case pos =>
    have d1 : decide (m.tm < s.term) = true := decide_eq_true hlt
    have HST : Hid (s.step m = s.late m) := Lib.hid (by rw [HS1.out]; unfold RS.step0; rw [if_pos hlt])
    have hndl : (s.late m).out.nd.length ≤ 9 := by rw [late_nd, hnd]; omega
    go_upto_region 3 with fail
    refine wp_region_later (by kernel_rfl) (by kernel_rfl) ?_
    repeat (go_big_quiet_step (fail))
    refine wpQuiet_nil ?_
    intro W3 hw'
    obtain ⟨⟨wq, hq⟩, hw''⟩ := hw'
    have hwe : W3 = wq := hw''
    clear hw''
    subst hwe
    have HXA3 := Lib.hid (HXA.out.below hq)
    have HR3 := Lib.hid (HR2.out.below hq)
    have HP3 := Lib.hid (HP2.out.trans (PS.still hq))
    clear hq a3 q3
    have HLT2 := Lib.hid (rf_late m x HR3.out (by omega))
    unfold mxval at HLT2
    have r0 := (HXA3.out).1 0 _ rfl
    have r1 := (HXA3.out).1 1 _ rfl
    have r2 := (HXA3.out).1 2 _ rfl
    have r3 := (HXA3.out).1 3 _ rfl
    have r4 := (HXA3.out).1 4 _ rfl
    have r5 := (HXA3.out).1 5 _ rfl
    have r6 := (HXA3.out).1 6 _ rfl
    have r7 := (HXA3.out).1 7 _ rfl
    have r8 := (HXA3.out).1 8 _ rfl
    have r9 := (HXA3.out).1 9 _ rfl
    have r10 := (HXA3.out).1 10 _ rfl
    have r11 := (HXA3.out).1 11 _ rfl
    have r12 := (HXA3.out).1 12 _ rfl
    have r13 := (HXA3.out).1 13 _ rfl
    go_wp2_with fail
    with_reducible refine (HLT2.out).mono ?_
    rintro e W4 ⟨rfl, h4, hr4, hp4, hm4⟩
    have hp4 := HP3.out.trans hp4
    clear r0 r1 r2 r3 r4 r5 r6 r7 r8 r9 r10 r11 r12 r13 HLT2
    have hx := HX2.out.keep hp4.1 (fun e => HNF.out e)
    have HTL := Lib.hid (rf_tell hr4 hp4 HCL.out (by omega))
    have HXC := Lib.hid hx
    clear hr4 hp4 hx
    go_wp2_with fail
    with_reducible refine (HTL.out).mono ?_
    intro e w9 hA
    have HA := Lib.hid hA
    obtain ⟨p1, n1, k1, p2, n2, k2, rfl⟩ := hA.form
    have hx9 : CBox b2 [.slice none 0 0, .bool false, .int .i64 0, .slice none 0 0] w9 := by
      obtain ⟨_, _, _, _, _, hp9, _⟩ := hA
      exact HX2.out.keep hp9.1 HNF.out
    have t0 := hx9.1 0 _ rfl
    have t1 := hx9.1 1 _ rfl
    have t2 := hx9.1 2 _ rfl
    have t3 := hx9.1 3 _ rfl
    have u0 := hx9.2.1 0 (by show 0 < 4; omega)
    have u1 := hx9.2.1 1 (by show 1 < 4; omega)
    have u2 := hx9.2.1 2 (by show 2 < 4; omega)
    have u3 := hx9.2.1 3 (by show 3 < 4; omega)
    clear hA hx9 HTL HXC
    go_wp2_with fail
    refine bodyPost_ret (results_cell1 rfl _ _ _ ⟨b2, 0, none⟩ (.agg #[.slice p1 n1 k1, .bool (s.late m).out.hd, .int .i64 (s.late m).out.fr, .slice p2 n2 k2]) rfl (by go_simp)) rfl ?_
    rw [HST.out]
    exact HFIN.out _ _ _ _ HA.out (((((Fr.refl (fun k => k = b2) w9).setCell (p := ⟨b2, 0, none⟩) (fun _ => rfl) _).setCell (p := ⟨b2, 1, none⟩) (fun _ => rfl) _).setCell (p := ⟨b2, 2, none⟩) (fun _ => rfl) _ |>.setCell (p := ⟨b2, 3, none⟩) (fun _ => rfl) _))
  case neg =>
  have d1 : decide (m.tm < s.term) = false := decide_eq_false hlt
  have HST : Hid (s.step m = (s.turn m).step1 m) := Lib.hid (by rw [HS1.out]; unfold RS.step0; rw [if_neg hlt])
  rw [HS1.out] at HST
  have HSB2 : Hid (RB (M + (max m.en.length 1 : Nat)) (N + max m.en.length 1) ((s.turn m).step1 m) ∧ ((s.turn m).step1 m).out.nd.length ≤ 9) := Lib.hid (by rw [← HST.out]; exact HSB.out)
  go_upto_region 3 with fail
  refine wp_region_later (by kernel_rfl) (by kernel_rfl) ?_
  repeat (go_big_quiet_step (fail))
  refine wpQuiet_nil ?_
  intro W3 hw'
  obtain ⟨⟨wq, hq⟩, hw''⟩ := hw'
  have hwe : W3 = wq := hw''
  clear hw''
  subst hwe
  have HXA3 := Lib.hid (HXA.out.below hq)
  have HR3 := Lib.hid (HR2.out.below hq)
  have HE3 := Lib.hid (HE2.out.below hq)
  have HP3 := Lib.hid (HP2.out.trans (PS.still hq))
  clear hq a3 q3 HXA HR2 HE2 HP2 HSB
  have a3 : ∀ q : Later W3, q.1.cell? ⟨b1, 3, none⟩ = some (.int .i64 m.tm) := fun q => (HXA3.out.below q.2).1 3 _ rfl
  have q3 : ∀ q : Later W3, q.1.cell? ⟨rb, 3, none⟩ = some (.int .i64 s.term) := HR3.out.q 3 rfl
  have HTU : Hid (s.turn m = if s.term < m.tm then s.down m.tm else s) := Lib.hid rfl
  go_upto_region 6 with fail
  refine wp_region_later (by kernel_rfl) (by kernel_rfl) ?_
  repeat (go_big_quiet_step (fail))
  refine wpQuiet_nil ?_
  intro W4 hw'
  obtain ⟨⟨wq, hq⟩, hw''⟩ := hw'
  have hwe : W4 = wq := hw''
  clear hw''
  subst hwe
  have HXA4 := Lib.hid (HXA3.out.below hq)
  have HR4 := Lib.hid (HR3.out.below hq)
  have HE4 := Lib.hid (HE3.out.below hq)
  have HP4 := Lib.hid (HP3.out.trans (PS.still hq))
  clear hq a3 q3 HXA3 HR3 HE3 HP3
  have HDN := Lib.hid (rf_down m.tm HR4.out)
  go_upto_if 70 with fail
  go_cut [] (fun wx => Hid (Rf rb base (s.turn m) h wx ∧ Fr (fun k => k = rb) W4 wx))
  case first =>
    by_cases hgt : s.term < m.tm
    · have d2 : decide (s.term < m.tm) = true := decide_eq_true hgt
      have a3 := HXA4.out.1 3 _ rfl
      go_wp2_with fail
      with_reducible refine (HDN.out).mono ?_
      rintro e W5 ⟨rfl, hr5, hf5⟩
      have HF : Hid (Rf rb base (s.turn m) h W5 ∧ Fr (fun k => k = rb) W4 W5) := Lib.hid ⟨by rw [HTU.out, if_pos hgt]; exact hr5, hf5⟩
      clear hr5 hf5
      go_wp2
      go_meet
      case rel => exact HF
    · have d2 : decide (s.term < m.tm) = false := decide_eq_false hgt
      have HF : Hid (Rf rb base (s.turn m) h W4 ∧ Fr (fun k => k = rb) W4 W4) := Lib.hid ⟨by rw [HTU.out, if_neg hgt]; exact HR4.out, Fr.refl _ _⟩
      have hgt2 : m.tm ≤ s.term := by omega
      go_wp2
      go_meet
      case rel => exact HF
  case rest =>
  have HC := Lib.hid hcut.out
  generalize wc = W5 at *
  have HBZ := Lib.hid (HBB.out.turn (m := m) HHE.out.2.2.2.2.2.2.2)
  have hzn : (s.turn m).out.nd.length = 0 := by rw [turn_nd, hnd]
  have hzv : (s.turn m).votes.length ≤ 900 := by
    have : (s.turn m).votes = s.votes := by
      unfold RS.turn RS.down
      split <;> first | rfl | (split <;> rfl)
    rw [this]
    exact hvt
  have HR5 := Lib.hid HC.out.1
  have HP5 := Lib.hid (HP4.out.trans (PS.core HC.out.2))
  have HE5 := Lib.hid (HE4.out.core HC.out.2)
  have HXA5 := Lib.hid (HXA4.out.keep HC.out.2 (fun e => by have := HE12.out; omega))
  rw [HST.out] at HS1
  have HST := Lib.hid HS1.out
  clear HS1 hcut HDN HXA4 HR4 HE4 HP4 HTU HBB HC
  generalize s.turn m = z at *
  (try clear W4)
  have HS2 : Hid (z.step1 m = if m.kd = 1 then z.voteReq m
  else if m.kd = 2 then z.voteRes m
  else if m.kd = 3 then (if z.role = 2 then z else (z.follow m).appReq m)
  else if m.kd = 4 then z.appRes m
  else if m.kd = 5 then z.follow m
  else z) := Lib.hid rfl
  have r0 := (HXA5.out).1 0 _ rfl
  have r1 := (HXA5.out).1 1 _ rfl
  have r2 := (HXA5.out).1 2 _ rfl
  have r3 := (HXA5.out).1 3 _ rfl
  have r4 := (HXA5.out).1 4 _ rfl
  have r5 := (HXA5.out).1 5 _ rfl
  have r6 := (HXA5.out).1 6 _ rfl
  have r7 := (HXA5.out).1 7 _ rfl
  have r8 := (HXA5.out).1 8 _ rfl
  have r9 := (HXA5.out).1 9 _ rfl
  have r10 := (HXA5.out).1 10 _ rfl
  have r11 := (HXA5.out).1 11 _ rfl
  have r12 := (HXA5.out).1 12 _ rfl
  have r13 := (HXA5.out).1 13 _ rfl
  go_upto_block 0 with fail
  go_cut [] (fun wx => Hid (∃ h1, Rf rb base (z.step1 m) h1 wx ∧ PS rb h h1 W1 wx))
  case first =>
    by_cases hk1 : m.kd = 1
    · have e1 : (m.kd == 1) = true := by simp [hk1]
      have HI : Hid (z.step1 m = z.voteReq m) := Lib.hid (by rw [HS2.out, if_pos hk1])
      clear hk1
      have HCC := Lib.hid (rf_voteReq m x HR5.out (by omega))
      unfold mxval at HCC
      go_wp2_with fail
      with_reducible refine (HCC.out).mono ?_
      rintro e W6 ⟨rfl, h6, hr6, hp6, hm6⟩
      have HF : Hid (∃ h1, Rf rb base (z.step1 m) h1 W6 ∧ PS rb h h1 W1 W6) := Lib.hid ⟨h6, by rw [HI.out]; exact hr6, HP5.out.trans hp6⟩
      clear hr6 hp6 hm6
      go_wp2
      go_meet
      case rel => exact HF
    have e1 : (m.kd == 1) = false := by simp [hk1]
    by_cases hk2 : m.kd = 2
    · have e2 : (m.kd == 2) = true := by simp [hk2]
      have HI : Hid (z.step1 m = z.voteRes m) := Lib.hid (by rw [HS2.out, if_neg hk1, if_pos hk2])
      clear hk2
      have HCC := Lib.hid (rf_voteRes m x HR5.out HBZ.out (by omega) (by omega) hzv (by omega) (by omega))
      unfold mxval at HCC
      go_wp2_with fail
      with_reducible refine (HCC.out).mono ?_
      rintro e W6 ⟨rfl, h6, hr6, hp6, hm6⟩
      have HF : Hid (∃ h1, Rf rb base (z.step1 m) h1 W6 ∧ PS rb h h1 W1 W6) := Lib.hid ⟨h6, by rw [HI.out]; exact hr6, HP5.out.trans hp6⟩
      clear hr6 hp6 hm6
      go_wp2
      go_meet
      case rel => exact HF
    have e2 : (m.kd == 2) = false := by simp [hk2]
    by_cases hk3 : m.kd = 3
    · have e3 : (m.kd == 3) = true := by simp [hk3]
      have HI : Hid (z.step1 m = if z.role = 2 then z else (z.follow m).appReq m) := Lib.hid (by rw [HS2.out, if_neg hk1, if_neg hk2, if_pos hk3])
      clear hk3
      have HCC := Lib.hid (rf_follow m x HR5.out)
      unfold mxval at HCC
      have HFO : Hid (z.role = 2 → z.follow m = z) := Lib.hid (fun hr => by unfold RS.follow; rw [if_pos hr])
      cases hrd : decide (z.role = 2) with
      | true =>
        rw [hrd] at HCC
        have hr := of_decide_eq_true hrd
        go_wp2_with fail
        with_reducible refine (HCC.out).mono ?_
        rintro e W6 ⟨rfl, hr6, hp6⟩
        have HF : Hid (∃ h1, Rf rb base (z.step1 m) h1 W6 ∧ PS rb h h1 W1 W6) := Lib.hid ⟨h, by rw [HI.out, if_pos hr]; rw [HFO.out hr] at hr6; exact hr6, HP5.out.trans hp6⟩
        clear hr6 hp6
        go_wp2
        go_meet
        case rel => exact HF
      | false =>
        rw [hrd] at HCC
        have hr := of_decide_eq_false hrd
        have HEA := Lib.hid (fun (W : World) (hr6 : Rf rb base (z.follow m) h W) (E6 : EnsAt rb h m x W) => rf_appReq m x hr6 (HBZ.out.follow m) hxu (by omega) E6 (by omega))
        unfold mxval at HEA
        go_wp2_with fail
        with_reducible refine (HCC.out).mono ?_
        rintro e W6 ⟨rfl, hr6, hp6⟩
        have HP6 := Lib.hid (HP5.out.trans hp6)
        have HA6 := Lib.hid (HEA.out W6 hr6 (HE5.out.ps hp6))
        have HXA6 := Lib.hid (HXA5.out.keep hp6.1 HNF1.out)
        clear hr6 hp6 r0 r1 r2 r3 r4 r5 r6 r7 r8 r9 r10 r11 r12 r13 HEA HCC
        have r0 := (HXA6.out).1 0 _ rfl
        have r1 := (HXA6.out).1 1 _ rfl
        have r2 := (HXA6.out).1 2 _ rfl
        have r3 := (HXA6.out).1 3 _ rfl
        have r4 := (HXA6.out).1 4 _ rfl
        have r5 := (HXA6.out).1 5 _ rfl
        have r6 := (HXA6.out).1 6 _ rfl
        have r7 := (HXA6.out).1 7 _ rfl
        have r8 := (HXA6.out).1 8 _ rfl
        have r9 := (HXA6.out).1 9 _ rfl
        have r10 := (HXA6.out).1 10 _ rfl
        have r11 := (HXA6.out).1 11 _ rfl
        have r12 := (HXA6.out).1 12 _ rfl
        have r13 := (HXA6.out).1 13 _ rfl
        go_wp2_with fail
        with_reducible refine (HA6.out).mono ?_
        rintro e W7 ⟨rfl, h7, hr7, hp7, hm7⟩
        have HF : Hid (∃ h1, Rf rb base (z.step1 m) h1 W7 ∧ PS rb h h1 W1 W7) := Lib.hid ⟨h7, by rw [HI.out, if_neg hr]; exact hr7, HP6.out.trans hp7⟩
        clear hr7 hp7 hm7
        go_wp2
        go_meet
        case rel => exact HF
    have e3 : (m.kd == 3) = false := by simp [hk3]
    by_cases hk4 : m.kd = 4
    · have e4 : (m.kd == 4) = true := by simp [hk4]
      have HI : Hid (z.step1 m = z.appRes m) := Lib.hid (by rw [HS2.out, if_neg hk1, if_neg hk2, if_neg hk3, if_pos hk4])
      clear hk4
      have HCC := Lib.hid (rf_appRes m x HR5.out HBZ.out hxl (by omega) (by omega))
      unfold mxval at HCC
      go_wp2_with fail
      with_reducible refine (HCC.out).mono ?_
      rintro e W6 ⟨rfl, h6, hr6, hp6, hm6⟩
      have HF : Hid (∃ h1, Rf rb base (z.step1 m) h1 W6 ∧ PS rb h h1 W1 W6) := Lib.hid ⟨h6, by rw [HI.out]; exact hr6, HP5.out.trans hp6⟩
      clear hr6 hp6 hm6
      go_wp2
      go_meet
      case rel => exact HF
    have e4 : (m.kd == 4) = false := by simp [hk4]
    by_cases hk5 : m.kd = 5
    · have e5 : (m.kd == 5) = true := by simp [hk5]
      have HI : Hid (z.step1 m = z.follow m) := Lib.hid (by rw [HS2.out, if_neg hk1, if_neg hk2, if_neg hk3, if_neg hk4, if_pos hk5])
      clear hk5
      have HCC := Lib.hid (rf_follow m x HR5.out)
      unfold mxval at HCC
      go_wp2_with fail
      with_reducible refine (HCC.out).mono ?_
      rintro e W6 ⟨rfl, hr6, hp6⟩
      have HF : Hid (∃ h1, Rf rb base (z.step1 m) h1 W6 ∧ PS rb h h1 W1 W6) := Lib.hid ⟨h, by rw [HI.out]; exact hr6, HP5.out.trans hp6⟩
      clear hr6 hp6
      go_wp2
      go_meet
      case rel => exact HF
    have e5 : (m.kd == 5) = false := by simp [hk5]
    have HF : Hid (∃ h1, Rf rb base (z.step1 m) h1 W5 ∧ PS rb h h1 W1 W5) := Lib.hid ⟨h, by rw [HS2.out, if_neg hk1, if_neg hk2, if_neg hk3, if_neg hk4, if_neg hk5]; exact HR5.out, HP5.out⟩
    go_wp2
    go_meet
    case rel => exact HF
  case rest =>
    clear r0 r1 r2 r3 r4 r5 r6 r7 r8 r9 r10 r11 r12 r13 HS2 HR5 HP5 HE5 HXA5 HBZ
    obtain ⟨h6, hr6, hp6⟩ := hcut.out
    have hndl := HSB2.out.2
    clear hcut
    generalize z.step1 m = y at *
    have hx := HX2.out.keep hp6.1 (fun e => HNF.out e)
    have HTL := Lib.hid (rf_tell hr6 hp6 HCL.out (by omega))
    have HXC := Lib.hid hx
    clear hr6 hp6 hx
    go_wp2_with fail
    with_reducible refine (HTL.out).mono ?_
    intro e w9 hA
    have HA := Lib.hid hA
    obtain ⟨p1, n1, k1, p2, n2, k2, rfl⟩ := hA.form
    have hx9 : CBox b2 [.slice none 0 0, .bool false, .int .i64 0, .slice none 0 0] w9 := by
      obtain ⟨_, _, _, _, _, hp9, _⟩ := hA
      exact HX2.out.keep hp9.1 HNF.out
    have t0 := hx9.1 0 _ rfl
    have t1 := hx9.1 1 _ rfl
    have t2 := hx9.1 2 _ rfl
    have t3 := hx9.1 3 _ rfl
    have u0 := hx9.2.1 0 (by show 0 < 4; omega)
    have u1 := hx9.2.1 1 (by show 1 < 4; omega)
    have u2 := hx9.2.1 2 (by show 2 < 4; omega)
    have u3 := hx9.2.1 3 (by show 3 < 4; omega)
    clear hA hx9 HTL HXC
    go_wp2_with fail
    refine bodyPost_ret (results_cell1 rfl _ _ _ ⟨b2, 0, none⟩ (.agg #[.slice p1 n1 k1, .bool y.out.hd, .int .i64 y.out.fr, .slice p2 n2 k2]) rfl (by go_simp)) rfl ?_
    rw [HST.out]
    exact HFIN.out _ _ _ _ HA.out (((((Fr.refl (fun k => k = b2) w9).setCell (p := ⟨b2, 0, none⟩) (fun _ => rfl) _).setCell (p := ⟨b2, 1, none⟩) (fun _ => rfl) _).setCell (p := ⟨b2, 2, none⟩) (fun _ => rfl) _ |>.setCell (p := ⟨b2, 3, none⟩) (fun _ => rfl) _))
end
end RF
end Go.Proofs.YtaodldagmmephaaGreat

