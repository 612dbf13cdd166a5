/- Merged texts: Rf10 Rf11 Rf12. -/
import Derived.Test.YtaodldagmmephaaGreatA6
/- raft: send. -/
namespace Go.Proofs.YtaodldagmmephaaGreat
open Go.RowKit Go.Maps
namespace RF
/-- Orders that end alike but for the world that a call has left. -/
def joinP (a0 : World → Act) (W0 : World → World) (R : World → Prop) : Exit → Act → World → Prop
  | .normal, a, W => ∃ wT, R wT ∧ a = a0 wT ∧ W = W0 wT
  | _, _, _ => False
theorem wp_joinW {P : Program} {c : Code} {a : Act} {w : World} {Q : Exit → Act → World → Prop} (a0 : World → Act) (W0 : World → World) (R : World → Prop) (h : c.wp P (joinP a0 W0 R) a w) (hq : ∀ wT, R wT → Q .normal (a0 wT) (W0 wT)) : c.wp P Q a w :=
  Code.wp_mono (by
    intro e a W h
    cases e with
    | normal =>
      obtain ⟨wT, hR, rfl, rfl⟩ := h
      exact hq wT hR
    | _ => exact h.elim) h
theorem wp_join {P : Program} {c : Code} {a : Act} {w : World} {Q : Exit → Act → World → Prop} (a0 : Act) (W0 : World) (h : c.wp P (fun e a W => e = .normal ∧ a = a0 ∧ W = W0) a w) (hq : Q .normal a0 W0) : c.wp P Q a w :=
  Code.wp_mono (by rintro e a W ⟨rfl, rfl, rfl⟩; exact hq) h
section
variable {rb base : Nat} {s : RS} {h : Hd} {w : World} {M : Int} {N : Nat}
theorem termV_any (o : Option Int) : ∃ lt ok, termV o = .tuple #[.int .i64 lt, .bool ok] ∧ o.getD 0 = lt := by
  cases o with
  | none => exact ⟨0, false, rfl, rfl⟩
  | some x => exact ⟨x, true, rfl, rfl⟩
theorem Rf.box (H : Rf rb base s h w) {x : Int × Pr × Nat} (hx : x ∈ h.ph) : boxPr x w := ((H.all .peers).1 x hx).1

set_option maxHeartbeats 2000000 in
set_option maxRecDepth 100000 in
theorem rf_send (id : Int) (H0 : Rf rb base s h w) (B0 : RB M N s) (h1 : 1 ≤ id) (h2 : id ≤ 64) (hms : h.mh.length ≤ 800000) (hnd : s.out.nd.length ≤ 800000) :
    Calls Tryz.prog 103 #[.pointer (some ⟨rb, 0, none⟩), .int .i64 id] w fun e w' => e = .returned (.tuple #[]) ∧ ∃ h', Rf rb base (s.send id) h' w' ∧ PS rb h h' w w' ∧ h'.mh.length = h.mh.length + 1 := by
  have HP := Lib.hid (rf_peer id H0 B0 h1 h2)
  have HB1 := Lib.hid (B0.know h1 h2)
  unfold RS.send
  have HND : Hid ((s.know id).out.nd.length ≤ 800000) := Lib.hid (by unfold RS.know; split <;> exact hnd)
  clear H0 B0 hnd
  generalize s.know id = s at *
  go_enter Tryz.func103, Tryz.ntmps103
  go_wp2_with fail
  with_reducible refine (HP.out).mono ?_
  rintro e w1 ⟨pb, rfl, hd, hr1, hx1, hp1, hmh⟩
  have HX : Hid (boxPr (id, s.pr id, pb) w1) := Lib.hid (hr1.box hx1)
  have HXP : Hid ((1 ≤ (s.pr id).nx ∧ (s.pr id).nx ≤ M + 1)) := Lib.hid (HB1.out.ps (id, s.pr id) (by rw [← hr1.psE]; exact List.mem_map.2 ⟨_, hx1, rfl⟩)).2.1
  have HML : Hid (hd.mh.length = h.mh.length) := Lib.hid (by rw [hmh.mh])
  have HR1 := Lib.hid hr1
  have HP1 := Lib.hid hp1
  have HBA := Lib.hid (fun W (hW : Below w1.heap.size w1 W) => rf_base (hr1.below hW))
  clear hx1 hp1 HP hmh
  have qc5 : ∀ q : Later w1, q.1.cell? ⟨rb, 5, none⟩ = some (.int .i64 s.commit) := hr1.q 5 rfl
  have qc8 : ∀ q : Later w1, q.1.cell? ⟨rb, 8, none⟩ = some (.int .i64 s.round) := hr1.q 8 rfl
  clear hr1
  go_wp2_with fail
  refine Mix.region_mix (n := 11) (m := 2) (fun V => ∃ q : Later w1, V = q.1) [0, 1, 2, 3, 4, 5, 6, 7, 8, 9] (by kernel_rfl) rfl rfl (by kernel_rfl) (by kernel_rfl) ⟨⟨_, (Below.refl _ _).drew⟩, rfl⟩ ?_
  repeat (refine Mix.picks_step rfl ?_; go_big_quiet_step (fail))
  refine Mix.picks_nil ?_
  intro inv
  refine sink_one (i := 10) (by kernel_rfl) rfl (by omega) inv (fun K hK => ?_)
  have HKK := Lib.hid hK
  clear hK
  go_simp
  refine HKK.out _ _ ⟨⟨_, ((Below.refl _ w1).alloc (Nat.le_refl _) _).drew⟩, rfl⟩ ?_
  clear HKK inv
  intro hS inv
  (try simp only [Act.put]); (try simp only [List.setIfInBounds_toArray]); (try simp only [List.set_cons_succ]); (try simp only [List.set_cons_zero])
  refine sink_last (by kernel_rfl) rfl (by kernel_rfl) (fun K hK => ?_)
  have HKK := Lib.hid hK
  clear hK
  go_simp
  refine HKK.out _ _ ⟨rfl, ?_⟩
  clear HKK inv hS
  clear qc5 qc8
  have HM2 : Hid (MBox w1.heap.size (⟨3, 0, id, 0, 0, 0, s.commit, s.round, false, []⟩, .slice none 0 0) (w1.alloc (.cells #[.int .i64 3, .int .i64 0, .int .i64 id, .int .i64 0, .int .i64 0, .int .i64 0, .int .i64 s.commit, .int .i64 s.round, .bool false, .bool false, .slice none 0 0, .slice none 0 0, .int .i64 0, .slice none 0 0] 48)).drew) := Lib.hid (MBox.fresh w1 (⟨3, 0, id, 0, 0, 0, s.commit, s.round, false, []⟩, .slice none 0 0))
  have HB2 : Hid (Below w1.heap.size w1 (w1.alloc (.cells #[.int .i64 3, .int .i64 0, .int .i64 id, .int .i64 0, .int .i64 0, .int .i64 0, .int .i64 s.commit, .int .i64 s.round, .bool false, .bool false, .slice none 0 0, .slice none 0 0, .int .i64 0, .slice none 0 0] 48)).drew) := Lib.hid ((Below.refl _ w1).alloc (Nat.le_refl _) _).drew
  generalize (w1.alloc (.cells #[.int .i64 3, .int .i64 0, .int .i64 id, .int .i64 0, .int .i64 0, .int .i64 0, .int .i64 s.commit, .int .i64 s.round, .bool false, .bool false, .slice none 0 0, .slice none 0 0, .int .i64 0, .slice none 0 0] 48)).drew = W2 at *
  obtain ⟨B, hB⟩ : ∃ B, B = w1.heap.size := ⟨_, rfl⟩
  have HBB := Lib.hid hB
  rw [← hB] at HM2 ⊢
  clear hB
  have p0 : ∀ q : Later W2, q.1.cell? ⟨pb, 0, none⟩ = some (.int .i64 (s.pr id).nx) := fun q => ((HB2.out.trans (q.2.mono HB2.out.size)).cell (p := ⟨pb, 0, none⟩) (box_lt HX.out)).trans HX.out.1
  have HBL : Hid (∀ q : Later W2, Calls Tryz.prog 52 #[.pointer (some ⟨rb, 0, none⟩)] q.1 fun e w' => e = .returned (.int .i64 s.b) ∧ Below q.1.heap.size q.1 w') := Lib.hid (fun q => HBA.out q.1 (HB2.out.trans (q.2.mono HB2.out.size)))
  go_wp2_with fail
  refine wp_region_later (by kernel_rfl) (by kernel_rfl) ?_
  repeat (go_big_quiet_step ((go_at_call 52; exact Calls.later_of (HBL.out _))))
  refine wpQuiet_nil ?_
  intro w3 hw'
  obtain ⟨⟨wq, hq⟩, hw''⟩ := hw'
  have hwe : w3 = wq := hw''
  clear hw''
  subst hwe
  have HB3 : Hid (Below w1.heap.size w1 w3) := Lib.hid (HB2.out.trans (hq.mono HB2.out.size))
  have HM3 := Lib.hid (HM2.out.below hq)
  clear p0 HBL hq HM2 HB2 W2
  by_cases hbx : (s.pr id).nx ≤ s.b
  · have d1 : decide ((s.pr id).nx ≤ s.b) = true := decide_eq_true hbx
    have HS : Hid (s.send1 id = (s.needs id).say { mg0 with kd := 3, tq := id, cm := s.commit, rd := s.round, ix := s.b, lt := s.t }) := Lib.hid (by unfold RS.send1; rw [if_pos hbx])
    have HR3 := Lib.hid (HR1.out.below HB3.out)
    have HNV := Lib.hid (HR3.out.all .need)
    have HNR : Hid (¬ hd.nv.ownBlock = some rb) := Lib.hid (fun e => by have := HR3.out.dis .need .core rb e rfl; cases this)
    obtain ⟨pn, cn, hvn⟩ := owns_slice HNV.out
    have HVN := Lib.hid hvn
    have hrb3 : rb < w3.heap.size := HR3.out.rlt
    have HNB : Hid (¬ hd.nv.ownBlock = some B) := Lib.hid (fun e => by have := (part_lt (HR1.out.all .need) B e).2; have := HBB.out; omega)
    have HRB : Hid (rb ≠ B) := Lib.hid (fun e => by have := HR1.out.rlt; have := HBB.out; omega)
    have c16 : w3.cell? ⟨rb, 16, none⟩ = some (.slice pn s.out.nd.length cn) := (HR3.out.cell 16 rfl).trans (by rw [HVN.out])
    have HPR : Hid (∀ v4 w4, w4.ownsRow base 3 1 v4 (s.out.nd.length + 1) (rowOf ncells s.out.nd ++ rowOf ncells [id]) → (w3.alloc (.cells #[.int .i64 id] 3)).grownBy w4 hd.nv.ownBlock → (v4.ownBlock = hd.nv.ownBlock ∨ v4.ownBlock = some (w3.alloc (.cells #[.int .i64 id] 3)).heap.size) →
      Fr (fun k => hd.nv.ownBlock = some k) w3 w4 ∧ (∀ o, w4.cell? ⟨rb, o, none⟩ = w3.cell? ⟨rb, o, none⟩) ∧ (∀ o, w4.frozen? ⟨rb, o, none⟩ = w3.frozen? ⟨rb, o, none⟩) ∧ (v4.ownBlock = hd.nv.ownBlock ∨ ∀ g, v4.ownBlock = some g → w3.heap.size ≤ g)) := Lib.hid (fun v4 w4 ho hg ha => by
      have hF : Fr (fun k => hd.nv.ownBlock = some k) w3 w4 := Fr.trans ((Fr.refl (fun k => hd.nv.ownBlock = some k) w3).alloc _) (Fr.of_grown hg (S := fun k => hd.nv.ownBlock = some k) (fun _ _ h => h)) (fun i hi _ => hi)
      refine ⟨hF, fun o => hF.cell (p := ⟨rb, o, none⟩) hrb3 HNR.out, fun o => hF.frozen (p := ⟨rb, o, none⟩) hrb3 HNR.out, ?_⟩
      rcases ha with e | e
      · exact .inl e
      · refine .inr (fun g hg2 => ?_)
        rw [e] at hg2
        injection hg2 with hg2
        simp at hg2
        omega)
    clear hvn
    have HND2 : Hid (∀ v4 w4, (Fr (fun k => hd.nv.ownBlock = some k) w3 w4 ∧ (∀ o, w4.cell? ⟨rb, o, none⟩ = w3.cell? ⟨rb, o, none⟩) ∧ (∀ o, w4.frozen? ⟨rb, o, none⟩ = w3.frozen? ⟨rb, o, none⟩) ∧ (v4.ownBlock = hd.nv.ownBlock ∨ ∀ g, v4.ownBlock = some g → w3.heap.size ≤ g)) → w4.ownsRow base 3 1 v4 (s.out.nd.length + 1) (rowOf ncells s.out.nd ++ rowOf ncells [id]) →
      Rf rb base (s.needs id) { hd with nv := v4 } (w4.setCell ⟨rb, 16, none⟩ v4) ∧ PS rb hd { hd with nv := v4 } w3 (w4.setCell ⟨rb, 16, none⟩ v4)) := Lib.hid (fun v4 w4 hx ho => by
      have hne : v4.ownBlock ≠ some rb := fun e => by
        rcases hx.2.2.2 with h9 | h9
        · exact HNR.out (h9.symm.trans e)
        · have := h9 rb e; omega
      refine HR3.out.needed id v4 (Fr.trans (hx.1.mono (T := fun k => k = rb ∨ hd.nv.ownBlock = some k) (fun _ _ e => .inr e)) (fr_core w4 rb 16 v4) (fun i hi _ => .inl hi)) ?_ ?_ ((fr_core w4 rb 16 v4).owns (by rw [rowOf_append]; exact ho) (fun g hg e => hne (by rw [hg, e]))) hx.2.2.2
      · intro j u hu
        by_cases hj : j = 16
        · subst hj
          injection hu with hu
          rw [← hu]
          exact cell_set_same _ _ _ _ ((hx.2.1 16).trans (HR3.out.cell 16 rfl))
        · rw [World.cell?_setCell_other _ _ _ _ (by intro e; injection e with _ e _; omega), hx.2.1 j]
          refine HR3.out.cell j ?_
          rw [← hu]
          have hj17 : j < 17 := (List.getElem?_eq_some_iff.1 hu).1
          match j, hj with
          | 0, _ => rfl
          | 1, _ => rfl
          | 2, _ => rfl
          | 3, _ => rfl
          | 4, _ => rfl
          | 5, _ => rfl
          | 6, _ => rfl
          | 7, _ => rfl
          | 8, _ => rfl
          | 9, _ => rfl
          | 10, _ => rfl
          | 11, _ => rfl
          | 12, _ => rfl
          | 13, _ => rfl
          | 14, _ => rfl
          | 15, _ => rfl
          | j + 17, _ => omega
      · intro j hj
        rw [frozen_set, hx.2.2.1 j]
        exact HR3.out.fz j hj)
    go_wp2_with (at_builtin; refine RowT.app int_T rfl _ _ rfl base hd.nv s.out.nd.length (rowOf ncells s.out.nd) (by rw [HVN.out]; rfl) (HNV.out.alloc _) rfl (one_cells w3 [.int .i64 id] 3 ncells id rfl) (fun h => by cases h) (by have := HND.out; omega) (by have := HR3.out.bs; simp; omega) ?_; intro v4 w4 hown4 hgr4 hat4; have HX4 := Lib.hid (HPR.out v4 w4 hown4 hgr4 hat4); have HO4 := Lib.hid hown4; have c16' : w4.cell? ⟨rb, 16, none⟩ = some (.slice pn s.out.nd.length cn) := (HX4.out.2.1 16).trans c16; have f16 : w4.frozen? ⟨rb, 16, none⟩ = false := (HX4.out.2.2.1 16).trans (HR3.out.fz 16 (by omega)); obtain ⟨p4, c4, hv4⟩ := owns_slice hown4; subst hv4; have HR5 := Lib.hid (HND2.out _ w4 HX4.out HO4.out); have c10 : (w4.setCell ⟨rb, 16, none⟩ (.slice p4 (s.out.nd.length + 1) c4)).cell? ⟨rb, 10, none⟩ = some (.pointer (some ⟨hd.xb, 0, none⟩)) := HR5.out.1.cell 10 rfl; clear hown4 hgr4 hat4 c16)
    have HM5 : Hid (MBox B (⟨3, 0, id, 0, 0, 0, s.commit, s.round, false, []⟩, .slice none 0 0) (w4.setCell ⟨rb, 16, none⟩ (.slice p4 (s.out.nd.length + 1) c4))) := Lib.hid ((HM3.out.keep HX4.out.1 HNB.out).keep (fr_core w4 rb 16 _) (fun e => HRB.out e.symm))
    have HLB : Hid (Calls Tryz.prog 90 #[.pointer (some ⟨hd.xb, 0, none⟩)] (w4.setCell ⟨rb, 16, none⟩ (.slice p4 (s.out.nd.length + 1) c4)) fun e w' => e = .returned (.tuple #[.int .i64 s.b, .int .i64 s.t]) ∧ Below (w4.setCell ⟨rb, 16, none⟩ (.slice p4 (s.out.nd.length + 1) c4)).heap.size (w4.setCell ⟨rb, 16, none⟩ (.slice p4 (s.out.nd.length + 1) c4)) w') := Lib.hid (lg_base (HR5.out.1.all .log))
    have HP5 := Lib.hid (HP1.out.trans ((PS.still HB3.out).trans HR5.out.2))
    have HW5 : Hid (w.heap.size ≤ (w4.setCell ⟨rb, 16, none⟩ (.slice p4 (s.out.nd.length + 1) c4)).heap.size) := Lib.hid HP5.out.1.size
    have HR5b := Lib.hid HR5.out.1
    have HPS5 := Lib.hid HR5.out.2
    have HB5 : Hid (B < (w4.setCell ⟨rb, 16, none⟩ (.slice p4 (s.out.nd.length + 1) c4)).heap.size) := Lib.hid HM5.out.lt
    clear HR5 HX4 HO4 c16' f16
    generalize w4.setCell ⟨rb, 16, none⟩ (.slice p4 (s.out.nd.length + 1) c4) = W5 at *
    with_reducible refine (HLB.out).mono ?_
    rintro e w6 ⟨rfl, hb6⟩
    have HM6 := Lib.hid (HM5.out.below hb6)
    have b4 : w6.cell? ⟨B, 4, none⟩ = some (.int .i64 0) := HM6.out.1 4 _ rfl
    have b5 : w6.cell? ⟨B, 5, none⟩ = some (.int .i64 0) := HM6.out.1 5 _ rfl
    have g4 : w6.frozen? ⟨B, 4, none⟩ = false := HM6.out.2 4 (by omega)
    have g5 : w6.frozen? ⟨B, 5, none⟩ = false := HM6.out.2 5 (by omega)
    have HT1 := Lib.hid (HM6.out.set (⟨3, 0, id, 0, s.b, 0, s.commit, s.round, false, []⟩, .slice none 0 0) 4 (.int .i64 s.b) (by omega) rfl)
    have HT2 := Lib.hid (HT1.out.set (⟨3, 0, id, 0, s.b, s.t, s.commit, s.round, false, []⟩, .slice none 0 0) 5 (.int .i64 s.t) (by omega) rfl)
    have HFS : Hid (Fr (fun k => k = B) W5 ((w6.setCell ⟨B, 4, none⟩ (.int .i64 s.b)).setCell ⟨B, 5, none⟩ (.int .i64 s.t))) := Lib.hid (((Fr.of_all (S := fun k => k = B) hb6).setCell (p := ⟨B, 4, none⟩) (fun _ => rfl) _).setCell (p := ⟨B, 5, none⟩) (fun _ => rfl) _)
    clear hb6 HLB HM5
    clear b4 b5
    have r0 : (w6).cell? ⟨B, 0, none⟩ = some (.int .i64 ((⟨3, 0, id, 0, 0, 0, s.commit, s.round, false, []⟩, Value.slice none 0 0) : Mg × Value).1.kd) := (HM6.out).1 0 _ rfl
    have r1 : (w6).cell? ⟨B, 1, none⟩ = some (.int .i64 ((⟨3, 0, id, 0, 0, 0, s.commit, s.round, false, []⟩, Value.slice none 0 0) : Mg × Value).1.fr) := (HM6.out).1 1 _ rfl
    have r2 : (w6).cell? ⟨B, 2, none⟩ = some (.int .i64 ((⟨3, 0, id, 0, 0, 0, s.commit, s.round, false, []⟩, Value.slice none 0 0) : Mg × Value).1.tq) := (HM6.out).1 2 _ rfl
    have r3 : (w6).cell? ⟨B, 3, none⟩ = some (.int .i64 ((⟨3, 0, id, 0, 0, 0, s.commit, s.round, false, []⟩, Value.slice none 0 0) : Mg × Value).1.tm) := (HM6.out).1 3 _ rfl
    have r4 : (w6).cell? ⟨B, 4, none⟩ = some (.int .i64 ((⟨3, 0, id, 0, 0, 0, s.commit, s.round, false, []⟩, Value.slice none 0 0) : Mg × Value).1.ix) := (HM6.out).1 4 _ rfl
    have r5 : (w6).cell? ⟨B, 5, none⟩ = some (.int .i64 ((⟨3, 0, id, 0, 0, 0, s.commit, s.round, false, []⟩, Value.slice none 0 0) : Mg × Value).1.lt) := (HM6.out).1 5 _ rfl
    have r6 : (w6).cell? ⟨B, 6, none⟩ = some (.int .i64 ((⟨3, 0, id, 0, 0, 0, s.commit, s.round, false, []⟩, Value.slice none 0 0) : Mg × Value).1.cm) := (HM6.out).1 6 _ rfl
    have r7 : (w6).cell? ⟨B, 7, none⟩ = some (.int .i64 ((⟨3, 0, id, 0, 0, 0, s.commit, s.round, false, []⟩, Value.slice none 0 0) : Mg × Value).1.rd) := (HM6.out).1 7 _ rfl
    have r8 : (w6).cell? ⟨B, 8, none⟩ = some (.bool ((⟨3, 0, id, 0, 0, 0, s.commit, s.round, false, []⟩, Value.slice none 0 0) : Mg × Value).1.ok) := (HM6.out).1 8 _ rfl
    have r9 : (w6).cell? ⟨B, 9, none⟩ = some (.bool false) := (HM6.out).1 9 _ rfl
    have r10 : (w6).cell? ⟨B, 10, none⟩ = some (((⟨3, 0, id, 0, 0, 0, s.commit, s.round, false, []⟩, Value.slice none 0 0) : Mg × Value).2) := (HM6.out).1 10 _ rfl
    have r11 : (w6).cell? ⟨B, 11, none⟩ = some (.slice none 0 0) := (HM6.out).1 11 _ rfl
    have r12 : (w6).cell? ⟨B, 12, none⟩ = some (.int .i64 0) := (HM6.out).1 12 _ rfl
    have r13 : (w6).cell? ⟨B, 13, none⟩ = some (.slice none 0 0) := (HM6.out).1 13 _ rfl
    dsimp only at r0 r1 r2 r3 r4 r5 r6 r7 r8 r9 r10 r11 r12 r13
    have HR7 : Hid (Rf rb base (s.needs id) { hd with nv := .slice p4 (s.out.nd.length + 1) c4 } ((w6.setCell ⟨B, 4, none⟩ (.int .i64 s.b)).setCell ⟨B, 5, none⟩ (.int .i64 s.t))) := Lib.hid (HR5b.out.keep HFS.out (fun k hk e => by
      obtain ⟨p, hk⟩ := hk
      have e : k = B := e
      rcases HPS5.out.2 p k hk with h9 | h9
      · have := (part_lt (HR1.out.all p) k h9).2; have := HBB.out; omega
      · have := HM3.out.lt; omega))
    have HP7 : Hid (PS rb h { hd with nv := .slice p4 (s.out.nd.length + 1) c4 } w ((w6.setCell ⟨B, 4, none⟩ (.int .i64 s.b)).setCell ⟨B, 5, none⟩ (.int .i64 s.t))) := Lib.hid ⟨Fr.trans HP5.out.1 HFS.out (fun i e hi => by have : i = B := e; have := HBB.out; have := HP1.out.1.size; omega), HP5.out.2⟩
    have HSY := Lib.hid (rf_say2 ⟨3, 0, id, 0, s.b, s.t, s.commit, s.round, false, []⟩ (.slice none 0 0) HR7.out (World.ownsRow_nil _ _ _ _) (fun k e => by cases e) (by show hd.mh.length ≤ _; have := HML.out; omega) w h HP7.out (fun k e => by cases e))
    unfold mval at HSY
    dsimp only at HSY
    clear HT1 HT2
    go_wp2_with fail
    with_reducible refine (HSY.out).mono ?_
    rintro e w8 ⟨rfl, h8, hr8, hp8, hl8⟩
    have HF := Lib.hid (And.intro hr8 (And.intro hp8 hl8))
    clear hr8 hp8 hl8 r0 r1 r2 r3 r4 r5 r6 r7 r8 r9 r10 r11 r12 r13 g4 g5
    go_wp2
    go_end0
    refine ⟨rfl, _, by rw [HS.out]; exact HF.out.1, HF.out.2.1, by rw [HF.out.2.2]; show hd.mh.length + 1 = _; rw [HML.out]⟩
  · have d1 : decide ((s.pr id).nx ≤ s.b) = false := decide_eq_false hbx
    have HS : Hid (s.send1 id = s.say { mg0 with kd := 3, tq := id, cm := s.commit, rd := s.round, ix := (s.pr id).nx - 1, lt := (termS s.b s.t s.l ((s.pr id).nx - 1)).getD 0, en := sliceS s.b s.l (s.pr id).nx 8 }) := Lib.hid (by unfold RS.send1; rw [if_neg hbx])
    have hpx := HXP.out
    have hbx2 : s.b < (s.pr id).nx := by omega
    have hbig := HB1.out.big
    have hw1 : IntKind.i64.wrap ((s.pr id).nx - 1) = (s.pr id).nx - 1 := IntWalk.i64_in _ (by omega)
    have HR3 := Lib.hid (HR1.out.below HB3.out)
    have HX3 : Hid (boxPr (id, s.pr id, pb) w3) := Lib.hid (by
      obtain ⟨a, b, c, d⟩ := HX.out
      have hl := cell_lt a
      exact ⟨(HB3.out.cell (p := ⟨pb, 0, none⟩) hl).trans a, (HB3.out.cell (p := ⟨pb, 1, none⟩) hl).trans b, (HB3.out.cell (p := ⟨pb, 2, none⟩) hl).trans c, fun k hk => (HB3.out.frozen (p := ⟨pb, k, none⟩) hl).trans (d k hk)⟩)
    have HNB : Hid (∀ k, Fo rb hd k → k ≠ B) := Lib.hid (fun k hk e => by have := (HR1.out.lt hk).2; have := HBB.out; omega)
    have HTM := Lib.hid (fun W (hW : Below w1.heap.size w1 W) => lg_term ((s.pr id).nx - 1) ((HR1.out.below hW).all .log) (by omega))
    have HSL := Lib.hid (fun W (hW : Below w1.heap.size w1 W) => lg_slice (s.pr id).nx 8 ((HR1.out.below hW).all .log) (by omega))
    have p0 : w3.cell? ⟨pb, 0, none⟩ = some (.int .i64 (s.pr id).nx) := HX3.out.1
    have b4 : w3.cell? ⟨B, 4, none⟩ = some (.int .i64 0) := HM3.out.1 4 _ rfl
    have g4 : w3.frozen? ⟨B, 4, none⟩ = false := HM3.out.2 4 (by omega)
    have HT1 := Lib.hid (HM3.out.set (⟨3, 0, id, 0, (s.pr id).nx - 1, 0, s.commit, s.round, false, []⟩, .slice none 0 0) 4 (.int .i64 ((s.pr id).nx - 1)) (by omega) rfl)
    clear hpx hbig hbx
    go_wp2_with fail
    have HW4 : Hid (Below w1.heap.size w1 (w3.setCell ⟨B, 4, none⟩ (.int .i64 ((s.pr id).nx - 1)))) := Lib.hid (HB3.out.setCell (p := ⟨B, 4, none⟩) (by have := HBB.out; show w1.heap.size ≤ B; omega) _)
    have hR4 := HR1.out.below HW4.out
    have d10 : (w3.setCell ⟨B, 4, none⟩ (.int .i64 ((s.pr id).nx - 1))).cell? ⟨rb, 10, none⟩ = some (.pointer (some ⟨hd.xb, 0, none⟩)) := hR4.cell 10 rfl
    have e4 : (w3.setCell ⟨B, 4, none⟩ (.int .i64 ((s.pr id).nx - 1))).cell? ⟨B, 4, none⟩ = some (.int .i64 ((s.pr id).nx - 1)) := HT1.out.1 4 _ rfl
    have e5 : (w3.setCell ⟨B, 4, none⟩ (.int .i64 ((s.pr id).nx - 1))).cell? ⟨B, 5, none⟩ = some (.int .i64 0) := HT1.out.1 5 _ rfl
    have e5f : (w3.setCell ⟨B, 4, none⟩ (.int .i64 ((s.pr id).nx - 1))).frozen? ⟨B, 5, none⟩ = false := HT1.out.2 5 (by omega)
    have HBlt : Hid (B < (w3.setCell ⟨B, 4, none⟩ (.int .i64 ((s.pr id).nx - 1))).heap.size) := Lib.hid HT1.out.lt
    clear hR4 b4 g4 p0
    generalize w3.setCell ⟨B, 4, none⟩ (.int .i64 ((s.pr id).nx - 1)) = W4 at *
    have HTF := Lib.hid (termV_any (termS s.b s.t s.l ((s.pr id).nx - 1)))
    obtain ⟨lt, ok, hlt⟩ := HTF.out
    have HLT : Hid ((termS s.b s.t s.l ((s.pr id).nx - 1)).getD 0 = lt) := Lib.hid hlt.2
    rw [hlt.1] at HTM
    clear hlt HTF
    have HTD := Lib.hid (HTM.out W4.drew HW4.out.drew)
    have hmo : Tryz.prog.follows .mixedOrders = true := by kernel_rfl
    apply wp_joinW (R := fun wT => Below W4.heap.size W4 wT)
    case h =>
      go_region_with (go_at_call 91; refine HTD.out.mono ?_; rintro e w5 ⟨rfl, hb5⟩; have k5 : w5.cell? ⟨B, 5, none⟩ = some (.int .i64 0) := (hb5.cell (p := ⟨B, 5, none⟩) HBlt.out).trans e5; have k5f : w5.frozen? ⟨B, 5, none⟩ = false := (hb5.frozen (p := ⟨B, 5, none⟩) HBlt.out).trans e5f)
      all_goals exact ⟨w5, (Below.refl _ W4).drew.trans hb5, rfl, rfl⟩
    intro wT hbT
    have HM5 := Lib.hid (HT1.out.below hbT)
    have HT2 := Lib.hid (HM5.out.set (⟨3, 0, id, 0, (s.pr id).nx - 1, lt, s.commit, s.round, false, []⟩, .slice none 0 0) 5 (.int .i64 lt) (by omega) rfl)
    have HW6 : Hid (Below w1.heap.size w1 (wT.setCell ⟨B, 5, none⟩ (.int .i64 lt))) := Lib.hid ((HW4.out.trans (hbT.mono HW4.out.size)).setCell (p := ⟨B, 5, none⟩) (by have := HBB.out; show w1.heap.size ≤ B; omega) _)
    clear hbT HM5 HT1 HTD HTM d10 e4 e5 e5f HW4 HBlt
    generalize wT.setCell ⟨B, 5, none⟩ (.int .i64 lt) = W6 at *
    have HR6 := Lib.hid (HR1.out.below HW6.out)
    have r0 : (W6).cell? ⟨B, 0, none⟩ = some (.int .i64 ((⟨3, 0, id, 0, (s.pr id).nx - 1, lt, s.commit, s.round, false, []⟩, Value.slice none 0 0) : Mg × Value).1.kd) := (HT2.out).1 0 _ rfl
    have r1 : (W6).cell? ⟨B, 1, none⟩ = some (.int .i64 ((⟨3, 0, id, 0, (s.pr id).nx - 1, lt, s.commit, s.round, false, []⟩, Value.slice none 0 0) : Mg × Value).1.fr) := (HT2.out).1 1 _ rfl
    have r2 : (W6).cell? ⟨B, 2, none⟩ = some (.int .i64 ((⟨3, 0, id, 0, (s.pr id).nx - 1, lt, s.commit, s.round, false, []⟩, Value.slice none 0 0) : Mg × Value).1.tq) := (HT2.out).1 2 _ rfl
    have r3 : (W6).cell? ⟨B, 3, none⟩ = some (.int .i64 ((⟨3, 0, id, 0, (s.pr id).nx - 1, lt, s.commit, s.round, false, []⟩, Value.slice none 0 0) : Mg × Value).1.tm) := (HT2.out).1 3 _ rfl
    have r4 : (W6).cell? ⟨B, 4, none⟩ = some (.int .i64 ((⟨3, 0, id, 0, (s.pr id).nx - 1, lt, s.commit, s.round, false, []⟩, Value.slice none 0 0) : Mg × Value).1.ix) := (HT2.out).1 4 _ rfl
    have r5 : (W6).cell? ⟨B, 5, none⟩ = some (.int .i64 ((⟨3, 0, id, 0, (s.pr id).nx - 1, lt, s.commit, s.round, false, []⟩, Value.slice none 0 0) : Mg × Value).1.lt) := (HT2.out).1 5 _ rfl
    have r6 : (W6).cell? ⟨B, 6, none⟩ = some (.int .i64 ((⟨3, 0, id, 0, (s.pr id).nx - 1, lt, s.commit, s.round, false, []⟩, Value.slice none 0 0) : Mg × Value).1.cm) := (HT2.out).1 6 _ rfl
    have r7 : (W6).cell? ⟨B, 7, none⟩ = some (.int .i64 ((⟨3, 0, id, 0, (s.pr id).nx - 1, lt, s.commit, s.round, false, []⟩, Value.slice none 0 0) : Mg × Value).1.rd) := (HT2.out).1 7 _ rfl
    have r8 : (W6).cell? ⟨B, 8, none⟩ = some (.bool ((⟨3, 0, id, 0, (s.pr id).nx - 1, lt, s.commit, s.round, false, []⟩, Value.slice none 0 0) : Mg × Value).1.ok) := (HT2.out).1 8 _ rfl
    have r9 : (W6).cell? ⟨B, 9, none⟩ = some (.bool false) := (HT2.out).1 9 _ rfl
    have r10 : (W6).cell? ⟨B, 10, none⟩ = some (((⟨3, 0, id, 0, (s.pr id).nx - 1, lt, s.commit, s.round, false, []⟩, Value.slice none 0 0) : Mg × Value).2) := (HT2.out).1 10 _ rfl
    have r11 : (W6).cell? ⟨B, 11, none⟩ = some (.slice none 0 0) := (HT2.out).1 11 _ rfl
    have r12 : (W6).cell? ⟨B, 12, none⟩ = some (.int .i64 0) := (HT2.out).1 12 _ rfl
    have r13 : (W6).cell? ⟨B, 13, none⟩ = some (.slice none 0 0) := (HT2.out).1 13 _ rfl
    dsimp only at r0 r1 r2 r3 r4 r5 r6 r7 r8 r9 r10 r11 r12 r13
    have q10 : ∀ q : Later W6, q.1.cell? ⟨rb, 10, none⟩ = some (.pointer (some ⟨hd.xb, 0, none⟩)) := HR6.out.q 10 rfl
    have p0 : ∀ q : Later W6, q.1.cell? ⟨pb, 0, none⟩ = some (.int .i64 (s.pr id).nx) := fun q => ((HW6.out.trans (q.2.mono HW6.out.size)).cell (p := ⟨pb, 0, none⟩) (box_lt HX.out)).trans HX.out.1
    have HSW := Lib.hid (HSL.out W6.drew HW6.out.drew)
    go_wp2_with fail
    refine Mix.region_mix (n := 10) (m := 3) (fun V => ∃ q : Later W6, V = q.1) [0, 1, 2, 3, 4, 5, 6, 7] (by kernel_rfl) rfl rfl (by kernel_rfl) (by kernel_rfl) ⟨⟨_, (Below.refl _ _).drew⟩, rfl⟩ ?_
    repeat (refine Mix.picks_step rfl ?_; go_big_quiet_step (fail))
    refine Mix.picks_nil ?_
    intro inv
    refine sink_one (i := 8) (by kernel_rfl) rfl (by omega) inv (fun K hK => ?_)
    have HKK := Lib.hid hK
    clear hK
    go_simp
    with_reducible refine (HSW.out).mono ?_
    rintro e w7 ⟨v7, rfl, ho7, hb7⟩
    have hb67 : Below W6.heap.size W6 w7 := (Below.refl _ W6).drew.trans hb7
    obtain ⟨p7, c7, hv7⟩ := owns_slice ho7
    subst hv7
    have HM7 := Lib.hid (HT2.out.below hb67)
    have b10 : w7.cell? ⟨B, 10, none⟩ = some (.slice none 0 0) := HM7.out.1 10 _ rfl
    have g10 : w7.frozen? ⟨B, 10, none⟩ = false := HM7.out.2 10 (by omega)
    have HT3 := Lib.hid (HM7.out.set (⟨3, 0, id, 0, (s.pr id).nx - 1, lt, s.commit, s.round, false, sliceS s.b s.l (s.pr id).nx 8⟩, .slice p7 (sliceS s.b s.l (s.pr id).nx 8).length c7) 10 (.slice p7 (sliceS s.b s.l (s.pr id).nx 8).length c7) (by omega) rfl)
    have HB67 := Lib.hid hb67
    have HO7 := Lib.hid ho7
    clear hb7 ho7 hb67 r0 r1 r2 r3 r4 r5 r6 r7 r8 r9 r10 r11 r12 r13
    refine HKK.out _ _ ⟨⟨_, HB67.out⟩, rfl⟩ ?_
    clear HKK inv
    intro hS inv
    (try simp only [Act.put]); (try simp only [List.setIfInBounds_toArray]); (try simp only [List.set_cons_succ]); (try simp only [List.set_cons_zero])
    refine sink_one (i := 9) (by kernel_rfl) rfl (by omega) inv (fun K hK => ?_)
    have HKK := Lib.hid hK
    clear hK
    go_simp
    refine HKK.out _ _ ⟨⟨_, HB67.out⟩, rfl⟩ ?_
    clear HKK inv
    intro hS inv
    (try simp only [Act.put]); (try simp only [List.setIfInBounds_toArray]); (try simp only [List.set_cons_succ]); (try simp only [List.set_cons_zero])
    refine sink_last (by kernel_rfl) rfl (by kernel_rfl) (fun K hK => ?_)
    have HKK := Lib.hid hK
    clear hK
    go_simp
    refine HKK.out _ _ ⟨rfl, ?_⟩
    clear HKK inv hS
    clear q10 p0 HSW HSL
    have HW8 : Hid (Below w1.heap.size w1 (w7.setCell ⟨B, 10, none⟩ (.slice p7 (sliceS s.b s.l (s.pr id).nx 8).length c7))) := Lib.hid ((HW6.out.trans (HB67.out.mono HW6.out.size)).setCell (p := ⟨B, 10, none⟩) (by have := HBB.out; show w1.heap.size ≤ B; omega) _)
    have HEV : Hid ((w7.setCell ⟨B, 10, none⟩ (.slice p7 (sliceS s.b s.l (s.pr id).nx 8).length c7)).ownsRow w1.heap.size 25 4 (.slice p7 (sliceS s.b s.l (s.pr id).nx 8).length c7) (sliceS s.b s.l (s.pr id).nx 8).length (rowOf ecells (sliceS s.b s.l (s.pr id).nx 8))) := Lib.hid (Fr.owns ((Fr.refl (fun k => k = B) w7).setCell (p := ⟨B, 10, none⟩) (fun _ => rfl) _) (owns_lowE HO7.out HW6.out.size) (fun g hg e => by have := (HO7.out.lt g hg).1; have : B < W6.heap.size := HT2.out.lt; have : g = B := e; have : W6.heap.size = W6.drew.heap.size := rfl; omega))
    have HNEW : Hid (∀ k, (Value.slice p7 (sliceS s.b s.l (s.pr id).nx 8).length c7).ownBlock = some k → w1.heap.size ≤ k) := Lib.hid (fun k hk => (HEV.out.lt k hk).1)
    clear HO7 b10 g10 HM7
    obtain ⟨E, hE⟩ : ∃ E, E = sliceS s.b s.l (s.pr id).nx 8 := ⟨_, rfl⟩
    rw [← hE] at HT3 HEV HNEW HW8 HS ⊢
    clear hE
    generalize w7.setCell ⟨B, 10, none⟩ (.slice p7 E.length c7) = W8 at *
    have r0 : (W8).cell? ⟨B, 0, none⟩ = some (.int .i64 ((⟨3, 0, id, 0, (s.pr id).nx - 1, lt, s.commit, s.round, false, E⟩, Value.slice p7 E.length c7) : Mg × Value).1.kd) := (HT3.out).1 0 _ rfl
    have r1 : (W8).cell? ⟨B, 1, none⟩ = some (.int .i64 ((⟨3, 0, id, 0, (s.pr id).nx - 1, lt, s.commit, s.round, false, E⟩, Value.slice p7 E.length c7) : Mg × Value).1.fr) := (HT3.out).1 1 _ rfl
    have r2 : (W8).cell? ⟨B, 2, none⟩ = some (.int .i64 ((⟨3, 0, id, 0, (s.pr id).nx - 1, lt, s.commit, s.round, false, E⟩, Value.slice p7 E.length c7) : Mg × Value).1.tq) := (HT3.out).1 2 _ rfl
    have r3 : (W8).cell? ⟨B, 3, none⟩ = some (.int .i64 ((⟨3, 0, id, 0, (s.pr id).nx - 1, lt, s.commit, s.round, false, E⟩, Value.slice p7 E.length c7) : Mg × Value).1.tm) := (HT3.out).1 3 _ rfl
    have r4 : (W8).cell? ⟨B, 4, none⟩ = some (.int .i64 ((⟨3, 0, id, 0, (s.pr id).nx - 1, lt, s.commit, s.round, false, E⟩, Value.slice p7 E.length c7) : Mg × Value).1.ix) := (HT3.out).1 4 _ rfl
    have r5 : (W8).cell? ⟨B, 5, none⟩ = some (.int .i64 ((⟨3, 0, id, 0, (s.pr id).nx - 1, lt, s.commit, s.round, false, E⟩, Value.slice p7 E.length c7) : Mg × Value).1.lt) := (HT3.out).1 5 _ rfl
    have r6 : (W8).cell? ⟨B, 6, none⟩ = some (.int .i64 ((⟨3, 0, id, 0, (s.pr id).nx - 1, lt, s.commit, s.round, false, E⟩, Value.slice p7 E.length c7) : Mg × Value).1.cm) := (HT3.out).1 6 _ rfl
    have r7 : (W8).cell? ⟨B, 7, none⟩ = some (.int .i64 ((⟨3, 0, id, 0, (s.pr id).nx - 1, lt, s.commit, s.round, false, E⟩, Value.slice p7 E.length c7) : Mg × Value).1.rd) := (HT3.out).1 7 _ rfl
    have r8 : (W8).cell? ⟨B, 8, none⟩ = some (.bool ((⟨3, 0, id, 0, (s.pr id).nx - 1, lt, s.commit, s.round, false, E⟩, Value.slice p7 E.length c7) : Mg × Value).1.ok) := (HT3.out).1 8 _ rfl
    have r9 : (W8).cell? ⟨B, 9, none⟩ = some (.bool false) := (HT3.out).1 9 _ rfl
    have r10 : (W8).cell? ⟨B, 10, none⟩ = some (((⟨3, 0, id, 0, (s.pr id).nx - 1, lt, s.commit, s.round, false, E⟩, Value.slice p7 E.length c7) : Mg × Value).2) := (HT3.out).1 10 _ rfl
    have r11 : (W8).cell? ⟨B, 11, none⟩ = some (.slice none 0 0) := (HT3.out).1 11 _ rfl
    have r12 : (W8).cell? ⟨B, 12, none⟩ = some (.int .i64 0) := (HT3.out).1 12 _ rfl
    have r13 : (W8).cell? ⟨B, 13, none⟩ = some (.slice none 0 0) := (HT3.out).1 13 _ rfl
    dsimp only at r0 r1 r2 r3 r4 r5 r6 r7 r8 r9 r10 r11 r12 r13
    have HR8 := Lib.hid (HR1.out.below HW8.out)
    have HSY := Lib.hid (rf_say2 ⟨3, 0, id, 0, (s.pr id).nx - 1, lt, s.commit, s.round, false, E⟩ (.slice p7 E.length c7) HR8.out (owns_lowE HEV.out HR1.out.bs) (fun k hk q hq => by have := (part_lt (HR1.out.all q) k hq).2; have := HNEW.out k hk; omega) (by have := HML.out; omega) w h (HP1.out.trans (PS.still HW8.out)) (fun k hk => Nat.le_trans HP1.out.1.size (HNEW.out k hk)))
    unfold mval at HSY
    dsimp only at HSY
    clear HT3 HT2
    go_wp2_with fail
    with_reducible refine (HSY.out).mono ?_
    rintro e w8 ⟨rfl, h8, hr8, hp8, hl8⟩
    have HF := Lib.hid (And.intro hr8 (And.intro hp8 hl8))
    clear hr8 hp8 hl8 r0 r1 r2 r3 r4 r5 r6 r7 r8 r9 r10 r11 r12 r13
    go_wp2
    go_end0
    exact ⟨rfl, _, by rw [HS.out, HLT.out]; exact HF.out.1, HF.out.2.1, by rw [HF.out.2.2, HML.out]⟩
end
end RF
end Go.Proofs.YtaodldagmmephaaGreat

/- raft: sendAll. -/
namespace Go.Proofs.YtaodldagmmephaaGreat
open Go.RowKit Go.Maps
namespace RF
section
variable {rb base : Nat} {s : RS} {h : Hd} {w : World} {M : Int} {N : Nat}
/-- Bounds do not speak of what is told. -/
theorem RB.of {s s' : RS} (B : RB M N s) (e0 : s'.id = s.id) (e1 : s'.b = s.b) (e2 : s'.t = s.t) (e3 : s'.l = s.l) (e4 : s'.snap = s.snap) (e5 : s'.ps = s.ps) (e6 : s'.term = s.term) (e7 : s'.round = s.round) (e8 : s'.commit = s.commit) : RB M N s' := by
  obtain ⟨id, log, top, big, few, low, da, snap, ps, nd, term, round, commit, ltm⟩ := B
  have hl : s'.last = s.last := by unfold RS.last; rw [e1, e2, e3]
  exact ⟨by rw [e0]; exact id, by rw [e1, e2, e3]; exact log, by rw [hl]; exact top, big, by rw [e3]; exact few, low, by rw [e3]; exact da, by rw [e4]; exact snap, by rw [e5]; exact ps, by rw [e5]; exact nd, by rw [e6]; exact term, by rw [e7]; exact round, by rw [e8]; exact commit, by rw [e1, e2, e3, e6]; exact ltm⟩
theorem RB.say {m : Mg} (B : RB M N s) : RB M N (s.say m) := B.of rfl rfl rfl rfl rfl rfl rfl rfl rfl
theorem RB.send1 {id : Int} (B : RB M N s) : RB M N (s.send1 id) := by
  unfold RS.send1
  split <;> exact B.of rfl rfl rfl rfl rfl rfl rfl rfl rfl
theorem RB.send {id : Int} (B : RB M N s) (h1 : 1 ≤ id) (h2 : id ≤ 64) : RB M N (s.send id) := (B.know h1 h2).send1
theorem know_nd (s : RS) (id : Int) : (s.know id).out = s.out := by unfold RS.know; split <;> rfl
theorem send_nd (s : RS) (id : Int) : (s.send id).out.nd.length ≤ s.out.nd.length + 1 := by
  unfold RS.send
  rw [← know_nd s id]
  unfold RS.send1
  split
  · show ((s.know id).out.nd ++ [id]).length ≤ _
    rw [List.length_append]
    exact Nat.le_refl _
  · exact Nat.le_succ _
theorem take_snoc {l : List Int} {i : Nat} (hi : i < l.length) : l.take (i + 1) = l.take i ++ [HL.el l i] := CL.take_succ_el hi

/-- The members but the node itself, told by a new slice, read while the core is turned. -/
theorem oth_cells (H : Rf rb base s h w) {w2 wr : World} {g o : Nat} {L : List Int} {h' : Hd} (_ : Below w.heap.size w w2) (hlo : w.heap.size ≤ g) (hlt : g < w2.heap.size) (hc : ∀ k, k < L.length → w2.cell? ⟨g, o + k, none⟩ = some (.int .i64 (HL.el L k))) (hp : PS rb h h' w2 wr) (k : Nat) (hk : k < L.length) : wr.cell? ⟨g, o + k, none⟩ = some (.int .i64 (HL.el L k)) :=
  (hp.1.cell (p := ⟨g, o + k, none⟩) hlt (fun hf => by have := (H.lt hf).2; show False; dsimp only at this; omega)).trans (hc k hk)

set_option maxHeartbeats 2000000 in
set_option maxRecDepth 100000 in
theorem rf_sendAll (H : Rf rb base s h w) (B : RB M N s) (hms : h.mh.length ≤ 700000) (hnd : s.out.nd.length ≤ 700000) :
    Calls Tryz.prog 66 #[.pointer (some ⟨rb, 0, none⟩)] w fun e w' => e = .returned (.tuple #[]) ∧ ∃ h', Rf rb base s.sendAll h' w' ∧ PS rb h h' w w' ∧ h'.mh.length ≤ h.mh.length + 9 := by
  have HO := Lib.hid (rf_others H B)
  have HH := Lib.hid H
  have HB := Lib.hid B
  have hon := B.oth
  have HID := Lib.hid B.othId
  unfold RS.sendAll
  generalize s.others = L at *
  have HBF : Hid (∀ i, i ≤ L.length → RB M N ((L.take i).foldl RS.send s) ∧ ((L.take i).foldl RS.send s).out.nd.length ≤ s.out.nd.length + i) := Lib.hid (fun i => by
    induction i with
    | zero => exact fun _ => ⟨B, Nat.le_refl _⟩
    | succ i ih =>
      intro hi
      rw [take_snoc (by omega), List.foldl_append]
      obtain ⟨h1, h2⟩ := ih (by omega)
      have h3 := HID.out _ (el_mem (show i < L.length by omega))
      exact ⟨h1.send h3.1 h3.2.1, by have := send_nd ((L.take i).foldl RS.send s) (HL.el L i); show (RS.send _ _).out.nd.length ≤ _; omega⟩)
  clear H B
  go_enter Tryz.func66, Tryz.ntmps66
  go_wp2_with fail
  with_reducible refine (HO.out).mono ?_
  rintro e w2 ⟨q, c, rfl, ho2, hb2⟩
  have HR2 := Lib.hid (HH.out.below hb2)
  have HB2 := Lib.hid hb2
  have HO2 := Lib.hid ho2
  clear ho2 hb2 HO
  go_wp2
  go_loopw [7] (fun iv wr => ∃ (i : Nat) (h' : Hd), i ≤ L.length ∧ iv = .int .i64 i ∧ Hid (Rf rb base ((L.take i).foldl RS.send s) h' wr ∧ PS rb h h' w2 wr ∧ h'.mh.length = h.mh.length + i)) (fun iv _ => L.length - (intOf iv).toNat)
  case atStart => exact ⟨0, h, Nat.zero_le _, rfl, Lib.hid ⟨HR2.out, PS.refl _ _, rfl⟩⟩
  case round =>
    obtain ⟨i, h', hi, rfl, HR⟩ := hrel
    by_cases hlt : i < L.length
    · have hltI : (i : Int) < (L.length : Int) := by omega
      obtain ⟨g, cap, hgv, hg1, hg2, hg3⟩ := owns_len HO2.out (by omega)
      injection hgv with hgv _ hgc
      subst hgv hgc
      have hrd := RdI.of_own HO2.out rfl
      have d1 := oth_cells HH.out HB2.out hg1 hg2 (fun k hk => by obtain ⟨b, o, e, _, hc⟩ := hrd.2 (by omega); injection e with e; injection e with e1 e2 _; subst e1 e2; exact hc k hk) HR.out.2.1 i hlt
      rw [Nat.zero_add] at d1
      have h3 := HID.out _ (el_mem hlt)
      have HN : Hid ((L.take (i + 1)).foldl RS.send s = RS.send ((L.take i).foldl RS.send s) (HL.el L i)) := Lib.hid (by rw [take_snoc hlt, List.foldl_append]; rfl)
      have HSD := Lib.hid (rf_send (HL.el L i) HR.out.1 (HBF.out i hi).1 h3.1 h3.2.1 (by have := HR.out.2.2; omega) (by have := (HBF.out i hi).2; omega))
      generalize HL.el L i = x at *
      clear hrd h3
      go_wp2_with fail
      with_reducible refine (HSD.out).mono ?_
      rintro e w3 ⟨rfl, h3, hr3, hp3, hm3⟩
      have HR3 := Lib.hid (And.intro hr3 (And.intro (HR.out.2.1.trans hp3) hm3))
      have HRM := Lib.hid HR.out.2.2
      clear hr3 hp3 hm3 HSD HR d1
      go_wp2
      go_roundw
      case rel => exact ⟨i + 1, h3, by omega, by go_num, Lib.hid ⟨by rw [HN.out]; exact HR3.out.1, HR3.out.2.1, by rw [HR3.out.2.2, HRM.out]; omega⟩⟩
      case measure => simp [intOf]; omega
    · obtain rfl : i = L.length := by omega
      go_wp2
      go_end0
      refine ⟨rfl, h', ?_, (PS.still HB2.out).trans HR.out.2.1, by rw [HR.out.2.2]; omega⟩
      have := HR.out.1
      rwa [List.take_length] at this
end
end RF
end Go.Proofs.YtaodldagmmephaaGreat

/- raft: how far each member is (printed by gen-rfat.py out of XRf12.part). -/
namespace Go.Proofs.YtaodldagmmephaaGreat
open Go.RowKit Go.Maps
namespace RF
section
variable {rb base : Nat} {s : RS} {h : Hd} {w : World} {M : Int} {N : Nat}
theorem know_keep (s : RS) (y x : Int) {p : Pr} (hx : pget s.ps x = some p) : pget (s.know y).ps x = some p := by
  unfold RS.know
  cases hy : pget s.ps y with
  | some q => exact hx
  | none =>
    show pget ((y, _) :: s.ps) x = _
    unfold pget
    rw [List.find?_cons]
    by_cases e : y = x
    · subst e; rw [hx] at hy; cases hy
    · have : (y == x) = false := by simp [e]
      dsimp only
      rw [this]
      exact hx
theorem knowAll_keep (L : List Int) : ∀ (s : RS) (x : Int) {p : Pr}, pget s.ps x = some p → pget (s.knowAll L).ps x = some p := by
  induction L with
  | nil => exact fun _ _ _ h => h
  | cons y L ih => exact fun s x p h => ih (s.know y) x (know_keep s y x h)
theorem knowAll_take {L : List Int} {i : Nat} (hi : i < L.length) : s.knowAll (L.take (i + 1)) = (s.knowAll (L.take i)).know (HL.el L i) := by
  unfold RS.knowAll
  rw [take_snoc hi, List.foldl_append]
  rfl
theorem knowAll_pr {L : List Int} {i : Nat} (hi : i < L.length) : ((s.knowAll (L.take i)).know (HL.el L i)).pr (HL.el L i) = (s.knowAll L).pr (HL.el L i) := by
  have h1 := know_pr (s.knowAll (L.take i)) (HL.el L i)
  rw [← knowAll_take hi] at h1 ⊢
  have h2 : s.knowAll L = (s.knowAll (L.take (i + 1))).knowAll (L.drop (i + 1)) := by
    unfold RS.knowAll
    rw [← List.foldl_append, List.take_append_drop]
  have h3 := knowAll_keep (L.drop (i + 1)) _ _ h1
  rw [← h2] at h3
  show _ = (pget (s.knowAll L).ps (HL.el L i)).getD ⟨0, 0, 0⟩
  rw [h3]
  rfl
theorem RB.knowAll (B : RB M N s) : ∀ (L : List Int), (∀ i ∈ L, 1 ≤ i ∧ i ≤ 64) → RB M N (s.knowAll L) := by
  intro L
  induction L generalizing s with
  | nil => exact fun _ => B
  | cons y L ih => exact fun h => ih (B.know (h y List.mem_cons_self).1 (h y List.mem_cons_self).2) (fun i hi => h i (List.mem_cons_of_mem _ hi))
theorem know_fields (s : RS) (y : Int) : (s.know y).all = s.all ∧ (s.know y).id = s.id ∧ (s.know y).b = s.b ∧ (s.know y).t = s.t ∧ (s.know y).l = s.l := by
  unfold RS.know
  split <;> exact ⟨rfl, rfl, rfl, rfl, rfl⟩
theorem knowAll_all : ∀ (L : List Int) (s : RS), (s.knowAll L).all = s.all
  | [], _ => rfl
  | y :: L, s => (knowAll_all L (s.know y)).trans (know_fields s y).1

/-- A row of the call's own beside the core. -/
structure Row (rb : Nat) (h : Hd) (w0 g : Nat) (v : Value) (zs : List Int) (W : World) : Prop where
  ow : W.ownsRow w0 3 1 v zs.length (rowOf ncells zs)
  out : ∀ k, v.ownBlock = some k → ¬ Fo rb h k
  ne : v.ownBlock ≠ some g
theorem Row.step {h h' : Hd} {w0 g : Nat} {v : Value} {zs : List Int} {W W' : World} (r : Row rb h w0 g v zs W) (hp : PS rb h h' W W') : Row rb h' w0 g v zs W' :=
  ⟨hp.1.owns r.ow (fun k hk hf => r.out k hk hf), fun k hk hf => by
    obtain ⟨p, hp2⟩ := hf
    rcases hp.2 p k hp2 with h1 | h1
    · exact r.out k hk ⟨p, h1⟩
    · have := (r.ow.lt k hk).2; omega, r.ne⟩
theorem Row.below {h : Hd} {w0 g : Nat} {v : Value} {zs : List Int} {W W' : World} (r : Row rb h w0 g v zs W) (hb : Below W.heap.size W W') : Row rb h w0 g v zs W' := r.step (PS.still hb)
/-- A row grows: itself, and another one beside it; the core. -/
theorem Row.grow {h : Hd} {w0 g : Nat} {v v' : Value} {zs : List Int} {x : Int} {W W' : World} {o : Obj} (H : Rf rb base s h W) (r : Row rb h w0 g v zs W) (hg : g < W.heap.size) (ho : W'.ownsRow w0 3 1 v' (zs.length + 1) (rowOf ncells zs ++ rowOf ncells [x])) (hgr : (W.alloc o).grownBy W' v.ownBlock) (hat : v'.ownBlock = v.ownBlock ∨ v'.ownBlock = some (W.alloc o).heap.size) :
    Row rb h w0 g v' (zs ++ [x]) W' ∧ Rf rb base s h W' ∧ Fr (fun k => v.ownBlock = some k) W W' ∧ (v'.ownBlock = v.ownBlock ∨ ∀ k, v'.ownBlock = some k → W.heap.size ≤ k) := by
  have hF : Fr (fun k => v.ownBlock = some k) W W' := Fr.trans ((Fr.refl (fun k => v.ownBlock = some k) W).alloc o) (Fr.of_grown hgr (S := fun k => v.ownBlock = some k) (fun _ _ h => h)) (fun i hi _ => hi)
  have hl : v'.ownBlock = v.ownBlock ∨ ∀ k, v'.ownBlock = some k → W.heap.size ≤ k := by
    rcases hat with e | e
    · exact .inl e
    · refine .inr (fun k hk => ?_)
      rw [e] at hk
      injection hk with hk
      simp at hk
      omega
  refine ⟨⟨by rw [List.length_append, rowOf_append]; exact ho, fun k hk hf => ?_, fun e => ?_⟩, H.keep hF (fun k hk hs => r.out k hs hk), hF, hl⟩
  · rcases hl with e | e
    · exact r.out k (e.symm.trans hk) hf
    · have := (H.lt hf).2; have := e k hk; omega
  · rcases hl with e2 | e2
    · exact r.ne (e2.symm.trans e)
    · have := e2 g e; omega
theorem Row.other {h : Hd} {w0 g : Nat} {v u : Value} {zs : List Int} {W W' : World} (r : Row rb h w0 g u zs W) (hF : Fr (fun k => v.ownBlock = some k) W W') (hd : ∀ k, v.ownBlock = some k → u.ownBlock ≠ some k) : Row rb h w0 g u zs W' :=
  ⟨hF.owns r.ow (fun k hk hv => hd k hv hk), r.out, r.ne⟩
theorem row_fresh (w : World) (x : Int) {b : Nat} (hb : b ≤ w.heap.size) : (w.alloc (.cells #[.int .i64 x] 3)).ownsRow b 3 1 (.slice (some ⟨w.heap.size, 0, none⟩) 1 1) [x].length (rowOf ncells [x]) :=
  ⟨rfl, .inr ⟨w.heap.size, 1, #[.int .i64 x], rfl, hb, heap_alloc_new w _, Nat.le_refl _, by unfold maxLen; omega, rfl, rfl⟩⟩
theorem row_start (H : Rf rb base s h w) {W : World} {B0 g n c : Nat} {zs : List Int} (ho : W.ownsRow w.heap.size 3 1 (.slice (some ⟨B0, 0, none⟩) n c) zs.length (rowOf ncells zs)) (hlt : B0 < g) : Row rb h w.heap.size g (.slice (some ⟨B0, 0, none⟩) n c) zs W :=
  ⟨ho, fun k hk hf => by have := (ho.lt k hk).1; have := (H.lt hf).2; omega, fun e => by have e : B0 = g := (by injection e); omega⟩

set_option maxHeartbeats 2000000 in
set_option maxRecDepth 100000 in
theorem of_mt (pb : Nat) (p : Pr) (id : Int) (W : World) (hb : boxPr (id, p, pb) W) : Calls Tryz.prog 107 #[.pointer (some ⟨pb, 0, none⟩)] W fun e w' => e = .returned (.int .i64 (Pr.mt p)) ∧ w' = W := by
  have c := hb.1
  have c1 := hb.2.1
  have c2 := hb.2.2.1
  clear hb
  dsimp only at c c1 c2
  go_enter Tryz.func107, Tryz.ntmps107
  go_wp2
  go_ret
  exact ⟨rfl, rfl⟩

set_option maxHeartbeats 2000000 in
set_option maxRecDepth 100000 in
theorem rf_at_mt (own : Int) (H : Rf rb base s h w) (B : RB M N s) :
    Calls Tryz.prog 81 #[.pointer (some ⟨rb, 0, none⟩), .int .i64 own, .func (.func 107) #[] #[]] w fun e w' => e = .returned (.int .i64 (s.far own Pr.mt)) ∧ ∃ h', Rf rb base (s.knowAll s.others) h' w' ∧ PS rb h h' w w' ∧ Hd.Ext h h' := by
  have HO := Lib.hid (fun W (hW : Below w.heap.size w W) => rf_others (H.below hW) B)
  have HH := Lib.hid H
  have hon := B.oth
  have HID := Lib.hid B.othId
  have HAL := Lib.hid (fun (W : World) h' (HW : Rf rb base (s.knowAll s.others) h' W) => rf_all HW (B.knowAll s.others (fun i hi => ⟨(B.othId i hi).1, (B.othId i hi).2.1⟩)).da)
  have HV := Lib.hid B.all
  have hne : s.all ≠ [] := fun e => by have := B.all.1; rw [e] at this; simp at this
  have HKB := Lib.hid (fun i => B.knowAll (s.others.take i) (fun x hx => ⟨(B.othId x (List.mem_of_mem_take hx)).1, (B.othId x (List.mem_of_mem_take hx)).2.1⟩))
  unfold RS.far
  have HALE : Hid ((s.knowAll s.others).all = s.all) := Lib.hid (knowAll_all _ _)
  generalize s.others = L at *
  generalize hA : s.all = A at *
  have q0 : ∀ q : Later w, q.1.cell? ⟨rb, 0, none⟩ = some (.int .i64 s.id) := H.q 0 rfl
  clear H B hA
  have c0 := q0 ⟨w, Below.refl _ _⟩
  dsimp only at c0
  clear q0
  go_enter Tryz.func81, Tryz.ntmps81
  go_wp2_with fail
  have hbA : Below w.heap.size w ((w.alloc (.cells #[.int .i64 s.id] 3)).alloc (.cells #[.int .i64 own] 3)) := ((Below.refl _ w).alloc (Nat.le_refl _) _).alloc (by simp) _
  have HBA := Lib.hid hbA
  have hszA : ((w.alloc (.cells #[.int .i64 s.id] 3)).alloc (.cells #[.int .i64 own] 3)).heap.size = w.heap.size + 2 := by simp
  have HOA := Lib.hid (HO.out _ hbA)
  have HI1 : Hid (((w.alloc (.cells #[.int .i64 s.id] 3)).alloc (.cells #[.int .i64 own] 3)).ownsRow w.heap.size 3 1 (.slice (some ⟨w.heap.size, 0, none⟩) 1 1) [s.id].length (rowOf ncells [s.id])) := Lib.hid ((row_fresh w s.id (Nat.le_refl _)).alloc _)
  have HI2 : Hid (((w.alloc (.cells #[.int .i64 s.id] 3)).alloc (.cells #[.int .i64 own] 3)).ownsRow w.heap.size 3 1 (.slice (some ⟨w.heap.size + 1, 0, none⟩) 1 1) [own].length (rowOf ncells [own])) := Lib.hid (by
    have := row_fresh (w.alloc (.cells #[.int .i64 s.id] 3)) own (b := w.heap.size) (by simp)
    rwa [World.size_alloc] at this)
  clear hbA HO c0
  with_reducible refine (HOA.out).mono ?_
  rintro e w2 ⟨q, c, rfl, ho2, hb2⟩
  have HR2 := Lib.hid ((HH.out.below HBA.out).below hb2)
  have HB2 : Hid (Below w.heap.size w w2) := Lib.hid (HBA.out.trans (hb2.mono HBA.out.size))
  have HO2 := Lib.hid ho2
  have HGE : Hid (w.heap.size + 2 ≤ w2.heap.size) := Lib.hid (by have := hb2.size; omega)
  have HLO : Hid (∀ g, (Value.slice q L.length c).ownBlock = some g → w.heap.size + 2 ≤ g) := Lib.hid (fun g hg => by have := (ho2.lt g hg).1; omega)
  obtain ⟨g, hg⟩ : ∃ g, g = (match q with | some a => a.block | none => w.heap.size + 1 + 1) := ⟨_, rfl⟩
  have HG : Hid (w.heap.size + 2 ≤ g ∧ (0 < L.length → q = some ⟨g, 0, none⟩ ∧ g < w2.heap.size)) := Lib.hid (by
    rcases Nat.eq_zero_or_pos L.length with h0 | h0
    · refine ⟨?_, fun h => by omega⟩
      cases q with
      | none => rw [hg]; exact Nat.le_refl _
      | some a => rw [hg]; rcases ho2.2 with ⟨e, _⟩ | ⟨g1, c1, cur, e, h9, _⟩; · cases e
                  · injection e with e _ _; injection e with e; subst e; dsimp only; omega
    · obtain ⟨g1, cap, hgv, hg1, hg2, _⟩ := owns_len ho2 h0
      injection hgv with hgv _ _
      subst hgv
      rw [hg]
      exact ⟨by dsimp only; omega, fun _ => ⟨rfl, hg2⟩⟩)
  have HRow1 : Hid (Row rb h w.heap.size g (.slice (some ⟨w.heap.size, 0, none⟩) 1 1) [s.id] w2) := Lib.hid (row_start HH.out ((Fr.of_all (S := fun _ => False) hb2).owns HI1.out (fun _ _ h => h)) (by have := HG.out.1; omega))
  have HRow2 : Hid (Row rb h w.heap.size g (.slice (some ⟨w.heap.size + 1, 0, none⟩) 1 1) [own] w2) := Lib.hid (row_start HH.out ((Fr.of_all (S := fun _ => False) hb2).owns HI2.out (fun _ _ h => h)) (by have := HG.out.1; omega))
  have HNF : Hid (¬ Fo rb h g) := Lib.hid (fun hf => by have := (HH.out.lt hf).2; have := HG.out.1; omega)
  have HC0 : Hid (∀ k, k < L.length → w2.cell? ⟨g, k, none⟩ = some (.int .i64 (HL.el L k))) := Lib.hid (fun k hk => by
    obtain ⟨b, o, e, _, hc⟩ := (RdI.of_own ho2 rfl).2 (by omega)
    have e2 := (HG.out.2 (by omega)).1
    rw [e2] at e
    injection e with e
    injection e with e1 e2 _
    subst e1 e2
    have := hc k hk
    rwa [Nat.zero_add] at this)
  clear ho2 hb2 HOA HI1 HI2 hg hszA
  go_wp2
  go_loopw [7, 8, 21] (fun v1 v2 iv wr => ∃ (i : Nat) (h' : Hd), i ≤ L.length ∧ iv = .int .i64 i ∧ Hid (Rf rb base (s.knowAll (L.take i)) h' wr ∧ PS rb h h' w wr ∧ Hd.Ext h h' ∧ ¬ Fo rb h' g ∧ (0 < L.length → g < wr.heap.size)) ∧ Hid (Row rb h' w.heap.size g v1 (s.id :: L.take i) wr ∧ Row rb h' w.heap.size g v2 (own :: (L.take i).map fun x => Pr.mt ((s.knowAll L).pr x)) wr ∧ ∀ k, v1.ownBlock = some k → v2.ownBlock ≠ some k) ∧ Hid (∀ k, k < L.length → wr.cell? ⟨g, k, none⟩ = some (.int .i64 (HL.el L k)))) (fun _ _ iv _ => L.length - (intOf iv).toNat)
  case atStart => exact ⟨0, h, Nat.zero_le _, rfl, Lib.hid ⟨HR2.out, PS.still HB2.out, Hd.Ext.refl h, HNF.out, fun h => (HG.out.2 h).2⟩, Lib.hid ⟨HRow1.out, HRow2.out, fun k h1 h2 => by
    have h1 : w.heap.size = k := by injection h1
    have h2 : w.heap.size + 1 = k := by injection h2
    omega⟩, HC0⟩
  case round =>
    clear HRow1 HRow2 HC0 HNF HR2
    obtain ⟨i, h', hi, rfl, HR, HW, HC⟩ := hrel
    by_cases hlt : i < L.length
    · have hltI : (i : Int) < (L.length : Int) := by omega
      have hq := (HG.out.2 (by omega)).1
      subst hq
      have d1 := HC.out i hlt
      have hx := HID.out _ (el_mem hlt)
      have hgl := HR.out.2.2.2.2 (by omega)
      have HTK : Hid (L.take (i + 1) = L.take i ++ [HL.el L i] ∧ s.knowAll (L.take (i + 1)) = (s.knowAll (L.take i)).know (HL.el L i) ∧ ((s.knowAll (L.take i)).know (HL.el L i)).pr (HL.el L i) = (s.knowAll L).pr (HL.el L i)) := Lib.hid ⟨take_snoc hlt, knowAll_take hlt, knowAll_pr hlt⟩
      have hl1 : (s.id :: L.take i).length = i + 1 := by simp; omega
      have hl2 : (own :: (L.take i).map fun x => Pr.mt ((s.knowAll L).pr x)).length = i + 1 := by simp; omega
      obtain ⟨v1p, v1c, hv1⟩ := owns_slice HW.out.1.ow
      obtain ⟨v2p, v2c, hv2⟩ := owns_slice HW.out.2.1.ow
      rw [hl1] at hv1
      rw [hl2] at hv2
      subst hv1 hv2
      have HPE := Lib.hid (fun W h2 (HW2 : Rf rb base (s.knowAll (L.take i)) h2 W) => rf_peer (HL.el L i) HW2 (HKB.out i) hx.1 hx.2.1)
      obtain ⟨x, hxe⟩ : ∃ x, x = HL.el L i := ⟨_, rfl⟩
      rw [← hxe] at d1 HTK HPE
      have HL1 := Lib.hid (And.intro hl1 hl2)
      clear hx hxe hl1 hl2
      have HRD1 := Lib.hid (one_cells wr [.int .i64 x] 3 ncells x rfl)
      go_wp2_with (at_builtin; refine RowT.app int_T rfl _ _ rfl w.heap.size (.slice v1p (i + 1) v1c) (i + 1) (rowOf ncells (s.id :: L.take i)) rfl ((by have := HW.out.1.ow; rw [HL1.out.1] at this; exact this.alloc _)) rfl HRD1.out (fun h => by cases h) (by omega) (by have := HR.out.2.1.1.size; simp; omega) ?_; intro v4 w4 hown4 hgr4 hat4)
      have hG4 := Row.grow (x := x) HR.out.1 HW.out.1 hgl (by rw [HL1.out.1]; exact hown4) hgr4 hat4
      obtain ⟨hrow4, hrf4, hf4, hlo4⟩ := hG4
      have hr24 := HW.out.2.1.other hf4 (fun k h1 h2 => HW.out.2.2 k h1 h2)
      have HS4 := Lib.hid (And.intro hrow4 (And.intro hrf4 hr24))
      have HD4 : Hid (∀ k, v4.ownBlock = some k → (Value.slice v2p (i + 1) v2c).ownBlock ≠ some k) := Lib.hid (fun k h1 h2 => by
        rcases hlo4 with e | e
        · exact HW.out.2.2 k (e.symm.trans h1) h2
        · have := e k h1; have := (HW.out.2.1.ow.lt k h2).2; omega)
      have hP4 : PS rb h h' w w4 := ⟨Fr.trans HR.out.2.1.1 hf4 (fun k hk hlt => by have := (HW.out.1.ow.lt k hk).1; omega), HR.out.2.1.2⟩
      have HP4 := Lib.hid hP4
      have HC4 : Hid (∀ k, k < L.length → w4.cell? ⟨g, k, none⟩ = some (.int .i64 (HL.el L k))) := Lib.hid (fun k hk => (hf4.cell (p := ⟨g, k, none⟩) hgl (fun e => HW.out.1.ne e)).trans (HC.out k hk))
      have hgl4 : g < w4.heap.size := Nat.lt_of_lt_of_le hgl hf4.size
      have HP5 := Lib.hid (HPE.out w4 h' hrf4)
      clear hown4 hgr4 hat4 hrow4 hrf4 hr24 hlo4 hP4 hf4 HW HC HRD1 d1 hgl HPE
      with_reducible refine (HP5.out).mono ?_
      rintro e w5 ⟨pb, rfl, h5, hr5, hx5, hp5, hm5⟩
      have HF5 := Lib.hid (of_mt pb _ x w5 (hr5.box hx5))
      have HS5 := Lib.hid (And.intro hr5 (And.intro hp5 hm5))
      have HROW1 := Lib.hid (HS4.out.1.step hp5)
      have HROW2 := Lib.hid (HS4.out.2.2.step hp5)
      have HNG5 : Hid (¬ Fo rb h5 g) := Lib.hid (fun hf => by
        obtain ⟨p, hp⟩ := hf
        rcases hp5.2 p g hp with h9 | h9
        · exact HR.out.2.2.2.1 ⟨p, h9⟩
        · omega)
      have HC5 : Hid (∀ k, k < L.length → w5.cell? ⟨g, k, none⟩ = some (.int .i64 (HL.el L k))) := Lib.hid (fun k hk => (hp5.1.cell (p := ⟨g, k, none⟩) hgl4 (fun e => HR.out.2.2.2.1 e)).trans (HC4.out k hk))
      have hgl5 : g < w5.heap.size := Nat.lt_of_lt_of_le hgl4 hp5.1.size
      have HPP5 := Lib.hid (HP4.out.trans hp5)
      have HMH := Lib.hid (hm5.trans HR.out.2.2.1)
      rw [HTK.out.2.2] at HF5
      obtain ⟨y, hy⟩ : ∃ y, y = Pr.mt ((s.knowAll L).pr x) := ⟨_, rfl⟩
      have HY := Lib.hid hy
      rw [← hy] at HF5
      clear hr5 hx5 hp5 hm5 HS4 HC4 hgl4 HP4 HP5 HR hy
      have HRD2 := Lib.hid (one_cells w5 [.int .i64 y] 3 ncells y rfl)
      go_wp2_with fail
      with_reducible refine (HF5.out).mono ?_
      rintro e w6 ⟨rfl, hw6⟩
      subst hw6
      go_wp2_with (at_builtin; refine RowT.app int_T rfl _ _ rfl w.heap.size (.slice v2p (i + 1) v2c) (i + 1) (rowOf ncells (own :: (L.take i).map fun x => Pr.mt ((s.knowAll L).pr x))) rfl ((by have := HROW2.out.ow; rw [HL1.out.2] at this; exact this.alloc _)) rfl HRD2.out (fun h => by cases h) (by omega) (by have := HPP5.out.1.size; simp; omega) ?_; intro v7 w7 hown7 hgr7 hat7)
      have hG7 := Row.grow (x := y) HS5.out.1 HROW2.out hgl5 (by rw [HL1.out.2]; exact hown7) hgr7 hat7
      obtain ⟨hrow7, hrf7, hf7, hlo7⟩ := hG7
      have hr17 := HROW1.out.other hf7 (fun k h1 h2 => HD4.out k h2 h1)
      have HS7 := Lib.hid (And.intro hrow7 (And.intro hrf7 hr17))
      have HD7 : Hid (∀ k, v4.ownBlock = some k → v7.ownBlock ≠ some k) := Lib.hid (fun k h1 h2 => by
        rcases hlo7 with e | e
        · exact HD4.out k h1 (e.symm.trans h2)
        · have := e k h2; have := (HROW1.out.ow.lt k h1).2; omega)
      have HP7 : Hid (PS rb h h5 w w7) := Lib.hid ⟨Fr.trans HPP5.out.1 hf7 (fun k hk hlt => by have := (HROW2.out.ow.lt k hk).1; omega), HPP5.out.2⟩
      have HC7 : Hid (∀ k, k < L.length → w7.cell? ⟨g, k, none⟩ = some (.int .i64 (HL.el L k))) := Lib.hid (fun k hk => (hf7.cell (p := ⟨g, k, none⟩) hgl5 (fun e => HROW2.out.ne e)).trans (HC5.out k hk))
      have HG7 : Hid (g < w7.heap.size) := Lib.hid (Nat.lt_of_lt_of_le hgl5 hf7.size)
      clear hown7 hgr7 hat7 hrow7 hrf7 hr17 hlo7 hf7 HC5 hgl5 HPP5 HROW1 HROW2 HRD2 HF5 HS5
      go_wp2
      go_roundw
      case rel =>
        refine ⟨i + 1, h5, by omega, by go_num, Lib.hid ⟨by rw [HTK.out.2.1]; exact HS7.out.2.1, HP7.out, HMH.out, HNG5.out, fun _ => HG7.out⟩, Lib.hid ⟨by rw [HTK.out.1]; exact HS7.out.2.2, ?_, HD7.out⟩, HC7⟩
        rw [HTK.out.1, List.map_append, List.map_singleton, ← HY.out]
        exact HS7.out.1
      case measure => simp [intOf]; omega
    · obtain rfl : i = L.length := by omega
      have htk : L.take L.length = L := List.take_length
      rw [htk] at HR HW
      have hl1 : (s.id :: L).length = L.length + 1 := rfl
      have hl2 : (own :: L.map fun x => Pr.mt ((s.knowAll L).pr x)).length = L.length + 1 := by simp
      obtain ⟨v1p, v1c, hv1⟩ := owns_slice HW.out.1.ow
      obtain ⟨v2p, v2c, hv2⟩ := owns_slice HW.out.2.1.ow
      subst hv1 hv2
      have HA1 := Lib.hid (HAL.out wr h' HR.out.1)
      rw [HALE.out] at HA1
      have HI1 := Lib.hid HW.out.1
      have HI2 := Lib.hid HW.out.2.1
      clear HW htk HC
      go_wp2_with fail
      with_reducible refine (HA1.out).mono ?_
      rintro e w4 ⟨v4, rfl, ho4, hb4⟩
      obtain ⟨p4, c4, hv4⟩ := owns_slice ho4
      subst hv4
      have hv2 := HV.out.2.1
      have HRE := Lib.hid (reached_ints p4 v1p v2p A.length c4 _ v1c _ v2c A (s.id :: L) (own :: L.map fun x => Pr.mt ((s.knowAll L).pr x)) w4 (RdI.of_own ho4 rfl) (RdI.of_own (HI1.out.below hb4).ow rfl) (RdI.of_own (HI2.out.below hb4).ow rfl) (by omega) (by simp; omega) (by simp; omega))
      rw [hl1, hl2] at HRE
      have HB4 := Lib.hid hb4
      clear ho4 hb4 HA1 hl1 hl2
      go_wp2_with fail
      with_reducible refine (HRE.out).mono ?_
      rintro e w5 ⟨rfl, hb5⟩
      have HB5 : Hid (Below wr.heap.size wr w5) := Lib.hid (HB4.out.trans (hb5.mono HB4.out.size))
      clear hb5 HRE
      go_wp2
      go_ret
      exact ⟨rfl, h', HR.out.1.below HB5.out, HR.out.2.1.trans (PS.still HB5.out), HR.out.2.2.1⟩

set_option maxHeartbeats 2000000 in
set_option maxRecDepth 100000 in
theorem of_rd (pb : Nat) (p : Pr) (id : Int) (W : World) (hb : boxPr (id, p, pb) W) : Calls Tryz.prog 82 #[.pointer (some ⟨pb, 0, none⟩)] W fun e w' => e = .returned (.int .i64 (Pr.rd p)) ∧ w' = W := by
  have c := hb.1
  have c1 := hb.2.1
  have c2 := hb.2.2.1
  clear hb
  dsimp only at c c1 c2
  go_enter Tryz.func82, Tryz.ntmps82
  go_wp2
  go_ret
  exact ⟨rfl, rfl⟩

set_option maxHeartbeats 2000000 in
set_option maxRecDepth 100000 in
theorem rf_at_rd (own : Int) (H : Rf rb base s h w) (B : RB M N s) :
    Calls Tryz.prog 81 #[.pointer (some ⟨rb, 0, none⟩), .int .i64 own, .func (.func 82) #[] #[]] w fun e w' => e = .returned (.int .i64 (s.far own Pr.rd)) ∧ ∃ h', Rf rb base (s.knowAll s.others) h' w' ∧ PS rb h h' w w' ∧ Hd.Ext h h' := by
  have HO := Lib.hid (fun W (hW : Below w.heap.size w W) => rf_others (H.below hW) B)
  have HH := Lib.hid H
  have hon := B.oth
  have HID := Lib.hid B.othId
  have HAL := Lib.hid (fun (W : World) h' (HW : Rf rb base (s.knowAll s.others) h' W) => rf_all HW (B.knowAll s.others (fun i hi => ⟨(B.othId i hi).1, (B.othId i hi).2.1⟩)).da)
  have HV := Lib.hid B.all
  have hne : s.all ≠ [] := fun e => by have := B.all.1; rw [e] at this; simp at this
  have HKB := Lib.hid (fun i => B.knowAll (s.others.take i) (fun x hx => ⟨(B.othId x (List.mem_of_mem_take hx)).1, (B.othId x (List.mem_of_mem_take hx)).2.1⟩))
  unfold RS.far
  have HALE : Hid ((s.knowAll s.others).all = s.all) := Lib.hid (knowAll_all _ _)
  generalize s.others = L at *
  generalize hA : s.all = A at *
  have q0 : ∀ q : Later w, q.1.cell? ⟨rb, 0, none⟩ = some (.int .i64 s.id) := H.q 0 rfl
  clear H B hA
  have c0 := q0 ⟨w, Below.refl _ _⟩
  dsimp only at c0
  clear q0
  go_enter Tryz.func81, Tryz.ntmps81
  go_wp2_with fail
  have hbA : Below w.heap.size w ((w.alloc (.cells #[.int .i64 s.id] 3)).alloc (.cells #[.int .i64 own] 3)) := ((Below.refl _ w).alloc (Nat.le_refl _) _).alloc (by simp) _
  have HBA := Lib.hid hbA
  have hszA : ((w.alloc (.cells #[.int .i64 s.id] 3)).alloc (.cells #[.int .i64 own] 3)).heap.size = w.heap.size + 2 := by simp
  have HOA := Lib.hid (HO.out _ hbA)
  have HI1 : Hid (((w.alloc (.cells #[.int .i64 s.id] 3)).alloc (.cells #[.int .i64 own] 3)).ownsRow w.heap.size 3 1 (.slice (some ⟨w.heap.size, 0, none⟩) 1 1) [s.id].length (rowOf ncells [s.id])) := Lib.hid ((row_fresh w s.id (Nat.le_refl _)).alloc _)
  have HI2 : Hid (((w.alloc (.cells #[.int .i64 s.id] 3)).alloc (.cells #[.int .i64 own] 3)).ownsRow w.heap.size 3 1 (.slice (some ⟨w.heap.size + 1, 0, none⟩) 1 1) [own].length (rowOf ncells [own])) := Lib.hid (by
    have := row_fresh (w.alloc (.cells #[.int .i64 s.id] 3)) own (b := w.heap.size) (by simp)
    rwa [World.size_alloc] at this)
  clear hbA HO c0
  with_reducible refine (HOA.out).mono ?_
  rintro e w2 ⟨q, c, rfl, ho2, hb2⟩
  have HR2 := Lib.hid ((HH.out.below HBA.out).below hb2)
  have HB2 : Hid (Below w.heap.size w w2) := Lib.hid (HBA.out.trans (hb2.mono HBA.out.size))
  have HO2 := Lib.hid ho2
  have HGE : Hid (w.heap.size + 2 ≤ w2.heap.size) := Lib.hid (by have := hb2.size; omega)
  have HLO : Hid (∀ g, (Value.slice q L.length c).ownBlock = some g → w.heap.size + 2 ≤ g) := Lib.hid (fun g hg => by have := (ho2.lt g hg).1; omega)
  obtain ⟨g, hg⟩ : ∃ g, g = (match q with | some a => a.block | none => w.heap.size + 1 + 1) := ⟨_, rfl⟩
  have HG : Hid (w.heap.size + 2 ≤ g ∧ (0 < L.length → q = some ⟨g, 0, none⟩ ∧ g < w2.heap.size)) := Lib.hid (by
    rcases Nat.eq_zero_or_pos L.length with h0 | h0
    · refine ⟨?_, fun h => by omega⟩
      cases q with
      | none => rw [hg]; exact Nat.le_refl _
      | some a => rw [hg]; rcases ho2.2 with ⟨e, _⟩ | ⟨g1, c1, cur, e, h9, _⟩; · cases e
                  · injection e with e _ _; injection e with e; subst e; dsimp only; omega
    · obtain ⟨g1, cap, hgv, hg1, hg2, _⟩ := owns_len ho2 h0
      injection hgv with hgv _ _
      subst hgv
      rw [hg]
      exact ⟨by dsimp only; omega, fun _ => ⟨rfl, hg2⟩⟩)
  have HRow1 : Hid (Row rb h w.heap.size g (.slice (some ⟨w.heap.size, 0, none⟩) 1 1) [s.id] w2) := Lib.hid (row_start HH.out ((Fr.of_all (S := fun _ => False) hb2).owns HI1.out (fun _ _ h => h)) (by have := HG.out.1; omega))
  have HRow2 : Hid (Row rb h w.heap.size g (.slice (some ⟨w.heap.size + 1, 0, none⟩) 1 1) [own] w2) := Lib.hid (row_start HH.out ((Fr.of_all (S := fun _ => False) hb2).owns HI2.out (fun _ _ h => h)) (by have := HG.out.1; omega))
  have HNF : Hid (¬ Fo rb h g) := Lib.hid (fun hf => by have := (HH.out.lt hf).2; have := HG.out.1; omega)
  have HC0 : Hid (∀ k, k < L.length → w2.cell? ⟨g, k, none⟩ = some (.int .i64 (HL.el L k))) := Lib.hid (fun k hk => by
    obtain ⟨b, o, e, _, hc⟩ := (RdI.of_own ho2 rfl).2 (by omega)
    have e2 := (HG.out.2 (by omega)).1
    rw [e2] at e
    injection e with e
    injection e with e1 e2 _
    subst e1 e2
    have := hc k hk
    rwa [Nat.zero_add] at this)
  clear ho2 hb2 HOA HI1 HI2 hg hszA
  go_wp2
  go_loopw [7, 8, 21] (fun v1 v2 iv wr => ∃ (i : Nat) (h' : Hd), i ≤ L.length ∧ iv = .int .i64 i ∧ Hid (Rf rb base (s.knowAll (L.take i)) h' wr ∧ PS rb h h' w wr ∧ Hd.Ext h h' ∧ ¬ Fo rb h' g ∧ (0 < L.length → g < wr.heap.size)) ∧ Hid (Row rb h' w.heap.size g v1 (s.id :: L.take i) wr ∧ Row rb h' w.heap.size g v2 (own :: (L.take i).map fun x => Pr.rd ((s.knowAll L).pr x)) wr ∧ ∀ k, v1.ownBlock = some k → v2.ownBlock ≠ some k) ∧ Hid (∀ k, k < L.length → wr.cell? ⟨g, k, none⟩ = some (.int .i64 (HL.el L k)))) (fun _ _ iv _ => L.length - (intOf iv).toNat)
  case atStart => exact ⟨0, h, Nat.zero_le _, rfl, Lib.hid ⟨HR2.out, PS.still HB2.out, Hd.Ext.refl h, HNF.out, fun h => (HG.out.2 h).2⟩, Lib.hid ⟨HRow1.out, HRow2.out, fun k h1 h2 => by
    have h1 : w.heap.size = k := by injection h1
    have h2 : w.heap.size + 1 = k := by injection h2
    omega⟩, HC0⟩
  case round =>
    clear HRow1 HRow2 HC0 HNF HR2
    obtain ⟨i, h', hi, rfl, HR, HW, HC⟩ := hrel
    by_cases hlt : i < L.length
    · have hltI : (i : Int) < (L.length : Int) := by omega
      have hq := (HG.out.2 (by omega)).1
      subst hq
      have d1 := HC.out i hlt
      have hx := HID.out _ (el_mem hlt)
      have hgl := HR.out.2.2.2.2 (by omega)
      have HTK : Hid (L.take (i + 1) = L.take i ++ [HL.el L i] ∧ s.knowAll (L.take (i + 1)) = (s.knowAll (L.take i)).know (HL.el L i) ∧ ((s.knowAll (L.take i)).know (HL.el L i)).pr (HL.el L i) = (s.knowAll L).pr (HL.el L i)) := Lib.hid ⟨take_snoc hlt, knowAll_take hlt, knowAll_pr hlt⟩
      have hl1 : (s.id :: L.take i).length = i + 1 := by simp; omega
      have hl2 : (own :: (L.take i).map fun x => Pr.rd ((s.knowAll L).pr x)).length = i + 1 := by simp; omega
      obtain ⟨v1p, v1c, hv1⟩ := owns_slice HW.out.1.ow
      obtain ⟨v2p, v2c, hv2⟩ := owns_slice HW.out.2.1.ow
      rw [hl1] at hv1
      rw [hl2] at hv2
      subst hv1 hv2
      have HPE := Lib.hid (fun W h2 (HW2 : Rf rb base (s.knowAll (L.take i)) h2 W) => rf_peer (HL.el L i) HW2 (HKB.out i) hx.1 hx.2.1)
      obtain ⟨x, hxe⟩ : ∃ x, x = HL.el L i := ⟨_, rfl⟩
      rw [← hxe] at d1 HTK HPE
      have HL1 := Lib.hid (And.intro hl1 hl2)
      clear hx hxe hl1 hl2
      have HRD1 := Lib.hid (one_cells wr [.int .i64 x] 3 ncells x rfl)
      go_wp2_with (at_builtin; refine RowT.app int_T rfl _ _ rfl w.heap.size (.slice v1p (i + 1) v1c) (i + 1) (rowOf ncells (s.id :: L.take i)) rfl ((by have := HW.out.1.ow; rw [HL1.out.1] at this; exact this.alloc _)) rfl HRD1.out (fun h => by cases h) (by omega) (by have := HR.out.2.1.1.size; simp; omega) ?_; intro v4 w4 hown4 hgr4 hat4)
      have hG4 := Row.grow (x := x) HR.out.1 HW.out.1 hgl (by rw [HL1.out.1]; exact hown4) hgr4 hat4
      obtain ⟨hrow4, hrf4, hf4, hlo4⟩ := hG4
      have hr24 := HW.out.2.1.other hf4 (fun k h1 h2 => HW.out.2.2 k h1 h2)
      have HS4 := Lib.hid (And.intro hrow4 (And.intro hrf4 hr24))
      have HD4 : Hid (∀ k, v4.ownBlock = some k → (Value.slice v2p (i + 1) v2c).ownBlock ≠ some k) := Lib.hid (fun k h1 h2 => by
        rcases hlo4 with e | e
        · exact HW.out.2.2 k (e.symm.trans h1) h2
        · have := e k h1; have := (HW.out.2.1.ow.lt k h2).2; omega)
      have hP4 : PS rb h h' w w4 := ⟨Fr.trans HR.out.2.1.1 hf4 (fun k hk hlt => by have := (HW.out.1.ow.lt k hk).1; omega), HR.out.2.1.2⟩
      have HP4 := Lib.hid hP4
      have HC4 : Hid (∀ k, k < L.length → w4.cell? ⟨g, k, none⟩ = some (.int .i64 (HL.el L k))) := Lib.hid (fun k hk => (hf4.cell (p := ⟨g, k, none⟩) hgl (fun e => HW.out.1.ne e)).trans (HC.out k hk))
      have hgl4 : g < w4.heap.size := Nat.lt_of_lt_of_le hgl hf4.size
      have HP5 := Lib.hid (HPE.out w4 h' hrf4)
      clear hown4 hgr4 hat4 hrow4 hrf4 hr24 hlo4 hP4 hf4 HW HC HRD1 d1 hgl HPE
      with_reducible refine (HP5.out).mono ?_
      rintro e w5 ⟨pb, rfl, h5, hr5, hx5, hp5, hm5⟩
      have HF5 := Lib.hid (of_rd pb _ x w5 (hr5.box hx5))
      have HS5 := Lib.hid (And.intro hr5 (And.intro hp5 hm5))
      have HROW1 := Lib.hid (HS4.out.1.step hp5)
      have HROW2 := Lib.hid (HS4.out.2.2.step hp5)
      have HNG5 : Hid (¬ Fo rb h5 g) := Lib.hid (fun hf => by
        obtain ⟨p, hp⟩ := hf
        rcases hp5.2 p g hp with h9 | h9
        · exact HR.out.2.2.2.1 ⟨p, h9⟩
        · omega)
      have HC5 : Hid (∀ k, k < L.length → w5.cell? ⟨g, k, none⟩ = some (.int .i64 (HL.el L k))) := Lib.hid (fun k hk => (hp5.1.cell (p := ⟨g, k, none⟩) hgl4 (fun e => HR.out.2.2.2.1 e)).trans (HC4.out k hk))
      have hgl5 : g < w5.heap.size := Nat.lt_of_lt_of_le hgl4 hp5.1.size
      have HPP5 := Lib.hid (HP4.out.trans hp5)
      have HMH := Lib.hid (hm5.trans HR.out.2.2.1)
      rw [HTK.out.2.2] at HF5
      obtain ⟨y, hy⟩ : ∃ y, y = Pr.rd ((s.knowAll L).pr x) := ⟨_, rfl⟩
      have HY := Lib.hid hy
      rw [← hy] at HF5
      clear hr5 hx5 hp5 hm5 HS4 HC4 hgl4 HP4 HP5 HR hy
      have HRD2 := Lib.hid (one_cells w5 [.int .i64 y] 3 ncells y rfl)
      go_wp2_with fail
      with_reducible refine (HF5.out).mono ?_
      rintro e w6 ⟨rfl, hw6⟩
      subst hw6
      go_wp2_with (at_builtin; refine RowT.app int_T rfl _ _ rfl w.heap.size (.slice v2p (i + 1) v2c) (i + 1) (rowOf ncells (own :: (L.take i).map fun x => Pr.rd ((s.knowAll L).pr x))) rfl ((by have := HROW2.out.ow; rw [HL1.out.2] at this; exact this.alloc _)) rfl HRD2.out (fun h => by cases h) (by omega) (by have := HPP5.out.1.size; simp; omega) ?_; intro v7 w7 hown7 hgr7 hat7)
      have hG7 := Row.grow (x := y) HS5.out.1 HROW2.out hgl5 (by rw [HL1.out.2]; exact hown7) hgr7 hat7
      obtain ⟨hrow7, hrf7, hf7, hlo7⟩ := hG7
      have hr17 := HROW1.out.other hf7 (fun k h1 h2 => HD4.out k h2 h1)
      have HS7 := Lib.hid (And.intro hrow7 (And.intro hrf7 hr17))
      have HD7 : Hid (∀ k, v4.ownBlock = some k → v7.ownBlock ≠ some k) := Lib.hid (fun k h1 h2 => by
        rcases hlo7 with e | e
        · exact HD4.out k h1 (e.symm.trans h2)
        · have := e k h2; have := (HROW1.out.ow.lt k h1).2; omega)
      have HP7 : Hid (PS rb h h5 w w7) := Lib.hid ⟨Fr.trans HPP5.out.1 hf7 (fun k hk hlt => by have := (HROW2.out.ow.lt k hk).1; omega), HPP5.out.2⟩
      have HC7 : Hid (∀ k, k < L.length → w7.cell? ⟨g, k, none⟩ = some (.int .i64 (HL.el L k))) := Lib.hid (fun k hk => (hf7.cell (p := ⟨g, k, none⟩) hgl5 (fun e => HROW2.out.ne e)).trans (HC5.out k hk))
      have HG7 : Hid (g < w7.heap.size) := Lib.hid (Nat.lt_of_lt_of_le hgl5 hf7.size)
      clear hown7 hgr7 hat7 hrow7 hrf7 hr17 hlo7 hf7 HC5 hgl5 HPP5 HROW1 HROW2 HRD2 HF5 HS5
      go_wp2
      go_roundw
      case rel =>
        refine ⟨i + 1, h5, by omega, by go_num, Lib.hid ⟨by rw [HTK.out.2.1]; exact HS7.out.2.1, HP7.out, HMH.out, HNG5.out, fun _ => HG7.out⟩, Lib.hid ⟨by rw [HTK.out.1]; exact HS7.out.2.2, ?_, HD7.out⟩, HC7⟩
        rw [HTK.out.1, List.map_append, List.map_singleton, ← HY.out]
        exact HS7.out.1
      case measure => simp [intOf]; omega
    · obtain rfl : i = L.length := by omega
      have htk : L.take L.length = L := List.take_length
      rw [htk] at HR HW
      have hl1 : (s.id :: L).length = L.length + 1 := rfl
      have hl2 : (own :: L.map fun x => Pr.rd ((s.knowAll L).pr x)).length = L.length + 1 := by simp
      obtain ⟨v1p, v1c, hv1⟩ := owns_slice HW.out.1.ow
      obtain ⟨v2p, v2c, hv2⟩ := owns_slice HW.out.2.1.ow
      subst hv1 hv2
      have HA1 := Lib.hid (HAL.out wr h' HR.out.1)
      rw [HALE.out] at HA1
      have HI1 := Lib.hid HW.out.1
      have HI2 := Lib.hid HW.out.2.1
      clear HW htk HC
      go_wp2_with fail
      with_reducible refine (HA1.out).mono ?_
      rintro e w4 ⟨v4, rfl, ho4, hb4⟩
      obtain ⟨p4, c4, hv4⟩ := owns_slice ho4
      subst hv4
      have hv2 := HV.out.2.1
      have HRE := Lib.hid (reached_ints p4 v1p v2p A.length c4 _ v1c _ v2c A (s.id :: L) (own :: L.map fun x => Pr.rd ((s.knowAll L).pr x)) w4 (RdI.of_own ho4 rfl) (RdI.of_own (HI1.out.below hb4).ow rfl) (RdI.of_own (HI2.out.below hb4).ow rfl) (by omega) (by simp; omega) (by simp; omega))
      rw [hl1, hl2] at HRE
      have HB4 := Lib.hid hb4
      clear ho4 hb4 HA1 hl1 hl2
      go_wp2_with fail
      with_reducible refine (HRE.out).mono ?_
      rintro e w5 ⟨rfl, hb5⟩
      have HB5 : Hid (Below wr.heap.size wr w5) := Lib.hid (HB4.out.trans (hb5.mono HB4.out.size))
      clear hb5 HRE
      go_wp2
      go_ret
      exact ⟨rfl, h', HR.out.1.below HB5.out, HR.out.2.1.trans (PS.still HB5.out), HR.out.2.2.1⟩
end
end RF
end Go.Proofs.YtaodldagmmephaaGreat

