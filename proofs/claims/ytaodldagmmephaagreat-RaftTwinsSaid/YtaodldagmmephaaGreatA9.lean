/- Merged texts: Rf17 Rf18 Rf19 Rm1 Rm2. -/
import Derived.Test.YtaodldagmmephaaGreatA8
/- raft: stand. -/
namespace Go.Proofs.YtaodldagmmephaaGreat
open Go.RowKit Go.Maps
namespace RF
section
variable {rb base : Nat} {s : RS} {h : Hd} {w : World} {M : Int} {N : Nat}
/-- The votes are written anew. -/
theorem Rf.revote (H : Rf rb base s h w) {s' : RS} {vv : Value} {w' : World} (hF : Fr (fun k => k = rb) w w') (hc : CBox rb (cells s' { h with vv := vv }) w') (ho : w'.ownsRow base 3 1 vv s'.votes.length (rowOf ncells s'.votes)) (hl : ∀ k, vv.ownBlock = some k → w.heap.size ≤ k)
    (e1 : s'.b = s.b) (e2 : s'.t = s.t) (e3 : s'.l = s.l) (e4 : s'.snap = s.snap) (e5 : s'.ps = s.ps) (e7 : s'.out.ms = s.out.ms) (e8 : s'.out.nd = s.out.nd) : Rf rb base s' { h with vv := vv } w' ∧ PS rb h { h with vv := vv } w w' := by
  refine ⟨H.upd (fun p => p = .core ∨ p = .votes) (fun p k => p = .votes ∧ w.heap.size ≤ k) hF (fun k hk p hp => .inl (H.dis _ _ k hp hk)) ?_ ?_ ?_ ?_, hF.mono (fun _ _ e => ⟨.core, e⟩), ?_⟩
  · rintro p (rfl | rfl)
    · exact ⟨hc.1, hc.2.1, (H.all .core).2.2⟩
    · exact ho
  · intro p hp hh
    cases p with
    | core => exact absurd (.inl rfl) hp
    | votes => exact absurd (.inr rfl) hp
    | log => show Lg h.xb base s'.b s'.t h.lv s'.l w'; rw [e1, e2, e3]; exact hh
    | snap => show World.ownsRow w' base 3 1 h.sv s'.snap.length (rowOf ncells s'.snap); rw [e4]; exact hh
    | map => exact hh
    | peers => exact ⟨hh.1, by rw [e5]; exact hh.2.1, hh.2.2⟩
    | msgs => exact ⟨hh.1, by rw [e7]; exact hh.2⟩
    | ents => exact hh
    | need => show World.ownsRow w' base 3 1 h.nv s'.out.nd.length (rowOf ncells s'.out.nd); rw [e8]; exact hh
  · intro p k hk
    cases p with
    | votes => exact .inr ⟨⟨rfl, hl k hk⟩, fun q hq => by have := (part_lt (H.all q) k hq).2; have := hl k hk; omega⟩
    | core => exact .inl hk
    | log => exact .inl hk
    | snap => exact .inl hk
    | map => exact .inl hk
    | peers => exact .inl hk
    | msgs => exact .inl hk
    | ents => exact .inl hk
    | need => exact .inl hk
  · rintro p q k ⟨rfl, _⟩ ⟨rfl, _⟩; rfl
  · intro p k hk
    cases p with
    | votes => exact .inr (hl k hk)
    | core => exact .inl hk
    | log => exact .inl hk
    | snap => exact .inl hk
    | map => exact .inl hk
    | peers => exact .inl hk
    | msgs => exact .inl hk
    | ents => exact .inl hk
    | need => exact .inl hk
theorem RB.stand1 {d : Int} (B : RB M N s) (ht : s.term < 1152921504606846976) : RB M N (s.stand1 d) :=
  ⟨B.id, B.log, B.top, B.big, B.few, B.low, B.da, B.snap, B.ps, B.nd, ⟨by have := B.term; show 0 ≤ s.term + 1; omega, by show s.term + 1 ≤ _; omega⟩, B.round, B.commit, by have := B.ltm; show (lastS s.b s.t s.l).2 ≤ s.term + 1; omega⟩

set_option maxHeartbeats 2000000 in
set_option maxRecDepth 100000 in
theorem rf_stand (d : Int) (hd1 : -9223372036854775808 ≤ d) (hd2 : d ≤ 9223372036854775807) (H : Rf rb base s h w) (B : RB M N s) (hM : M < 4503599627370496) (hN : N < 10000) (hms : h.mh.length ≤ 500000) (hnd : s.out.nd.length ≤ 500000) (ht : s.term < 1152921504606846976) :
    Calls Tryz.prog 74 #[.pointer (some ⟨rb, 0, none⟩), .int .i64 d] w fun e w' => e = .returned (.tuple #[]) ∧ ∃ h', Rf rb base (s.stand d) h' w' ∧ PS rb h h' w w' ∧ h'.mh.length ≤ h.mh.length + 9 := by
  have c0 : w.cell? ⟨rb, 0, none⟩ = some (.int .i64 s.id) := H.cell 0 rfl
  have f0 : w.frozen? ⟨rb, 0, none⟩ = false := H.fz 0 (by omega)
  have c1 : w.cell? ⟨rb, 1, none⟩ = some (.int .i64 s.role) := H.cell 1 rfl
  have f1 : w.frozen? ⟨rb, 1, none⟩ = false := H.fz 1 (by omega)
  have c2 : w.cell? ⟨rb, 2, none⟩ = some (.int .i64 s.lead) := H.cell 2 rfl
  have f2 : w.frozen? ⟨rb, 2, none⟩ = false := H.fz 2 (by omega)
  have c3 : w.cell? ⟨rb, 3, none⟩ = some (.int .i64 s.term) := H.cell 3 rfl
  have f3 : w.frozen? ⟨rb, 3, none⟩ = false := H.fz 3 (by omega)
  have c4 : w.cell? ⟨rb, 4, none⟩ = some (.int .i64 s.vote) := H.cell 4 rfl
  have f4 : w.frozen? ⟨rb, 4, none⟩ = false := H.fz 4 (by omega)
  have c6 : w.cell? ⟨rb, 6, none⟩ = some (.int .i64 s.elapsed) := H.cell 6 rfl
  have f6 : w.frozen? ⟨rb, 6, none⟩ = false := H.fz 6 (by omega)
  have c7 : w.cell? ⟨rb, 7, none⟩ = some (.int .i64 s.timeout) := H.cell 7 rfl
  have f7 : w.frozen? ⟨rb, 7, none⟩ = false := H.fz 7 (by omega)
  have c12 : w.cell? ⟨rb, 12, none⟩ = some (h.vv) := H.cell 12 rfl
  have f12 : w.frozen? ⟨rb, 12, none⟩ = false := H.fz 12 (by omega)
  have c14 : w.cell? ⟨rb, 14, none⟩ = some (.bool s.out.hd) := H.cell 14 rfl
  have f14 : w.frozen? ⟨rb, 14, none⟩ = false := H.fz 14 (by omega)
  have htm := B.term
  have htmw : IntKind.i64.wrap (s.term + 1) = s.term + 1 := IntWalk.i64_in _ (by omega)
  have hm1 : d.tmod 10 < 10 := Int.tmod_lt_of_pos d (show (0 : Int) < 10 by omega)
  have hm2 : -10 < d.tmod 10 := by
    have h1 := Int.tmod_lt_of_pos (-d) (show (0 : Int) < 10 by omega)
    rw [Int.neg_tmod] at h1
    omega
  have HH := Lib.hid H
  have HB := Lib.hid B
  clear H B
  go_enter Tryz.func74, Tryz.ntmps74
  go_upto_if 11 with fail
  go_cut [1] (fun s1 wx => ∃ r : Int, s1 = .int .i64 r ∧ wx = w ∧ Hid (r = drawn d))
  case first =>
    by_cases hneg : d.tmod 10 < 0
    · have d1 : decide (d.tmod 10 < 0) = true := decide_eq_true hneg
      have HE : Hid (d.tmod 10 + 10 = drawn d) := Lib.hid (by unfold drawn; rw [if_pos hneg])
      go_wp2
      go_meet
      case rel => exact ⟨_, rfl, rfl, HE⟩
    · have d1 : decide (d.tmod 10 < 0) = false := decide_eq_false hneg
      have HE : Hid (d.tmod 10 = drawn d) := Lib.hid (by unfold drawn; rw [if_neg hneg])
      go_wp2
      go_meet
      case rel => exact ⟨_, rfl, rfl, HE⟩
  case rest =>
    obtain ⟨r, rfl, hwc, HRE⟩ := hcut
    subst hwc
    have hr : 0 ≤ r ∧ r < 10 := by
      rw [HRE.out]
      unfold drawn
      split <;> omega
    have hr10 : IntKind.i64.wrap (10 + r) = 10 + r := IntWalk.i64_in _ (by omega)
    go_upto_region 4 with fail
    clear c1 f1 c2 f2 c12 f12 c6 f6 c7 f7 c0 f0 c3 f3 c4 f4 c14 f14
    have h3 := (HH.out.put { s with elapsed := 0 } 6 (.int .i64 0) (by omega) rfl (same_refl s)).put { s with elapsed := 0, timeout := 10 + r } 7 (.int .i64 (10 + r)) (by omega) rfl (same_refl s)
    have HF3 : Hid (Fr (fun k => k = rb) wc ((wc.setCell ⟨rb, 6, none⟩ (.int .i64 0)).setCell ⟨rb, 7, none⟩ (.int .i64 (10 + r)))) := Lib.hid (fr_core2 (fr_core _ _ _ _) _ _)
    have HR3 := Lib.hid h3
    clear h3
    generalize (wc.setCell ⟨rb, 6, none⟩ (.int .i64 0)).setCell ⟨rb, 7, none⟩ (.int .i64 (10 + r)) = W3 at *
    have c0 : W3.cell? ⟨rb, 0, none⟩ = some (.int .i64 s.id) := HR3.out.cell 0 rfl
    have c3 : W3.cell? ⟨rb, 3, none⟩ = some (.int .i64 s.term) := HR3.out.cell 3 rfl
    have c4 : W3.cell? ⟨rb, 4, none⟩ = some (.int .i64 s.vote) := HR3.out.cell 4 rfl
    have c14 : W3.cell? ⟨rb, 14, none⟩ = some (.bool s.out.hd) := HR3.out.cell 14 rfl
    have f3 := HR3.out.fz 3 (by omega)
    have f4 := HR3.out.fz 4 (by omega)
    have f14 := HR3.out.fz 14 (by omega)
    go_region
    simp only [Exit.then]
    go_at_K
    have h4 := ((HR3.out.put { s with elapsed := 0, timeout := 10 + r, term := s.term + 1 } 3 (.int .i64 (s.term + 1)) (by omega) rfl (same_refl s)).put { s with elapsed := 0, timeout := 10 + r, term := s.term + 1, vote := s.id } 4 (.int .i64 s.id) (by omega) rfl (same_refl s)).put { s with elapsed := 0, timeout := 10 + r, term := s.term + 1, vote := s.id, out := { s.out with hd := true } } 14 (.bool true) (by omega) rfl (same_refl s)
    have HF4 : Hid (Fr (fun k => k = rb) wc (((W3.setCell ⟨rb, 3, none⟩ (.int .i64 (s.term + 1))).setCell ⟨rb, 4, none⟩ (.int .i64 s.id)).setCell ⟨rb, 14, none⟩ (.bool true)).drew) := Lib.hid (fr_core2 (fr_core2 (fr_core2 HF3.out _ _) _ _) _ _).drew
    have HR4 := Lib.hid (h4.below (Below.refl _ _).drew)
    clear h4 c0 c3 c4 c14 f3 f4 f14 HR3 HF3
    generalize (((W3.setCell ⟨rb, 3, none⟩ (.int .i64 (s.term + 1))).setCell ⟨rb, 4, none⟩ (.int .i64 s.id)).setCell ⟨rb, 14, none⟩ (.bool true)).drew = W4 at *
    clear W3
    have c0 : W4.cell? ⟨rb, 0, none⟩ = some (.int .i64 s.id) := HR4.out.cell 0 rfl
    have c1 : W4.cell? ⟨rb, 1, none⟩ = some (.int .i64 s.role) := HR4.out.cell 1 rfl
    have c2 : W4.cell? ⟨rb, 2, none⟩ = some (.int .i64 s.lead) := HR4.out.cell 2 rfl
    have c12 : W4.cell? ⟨rb, 12, none⟩ = some h.vv := HR4.out.cell 12 rfl
    have f1 := HR4.out.fz 1 (by omega)
    have f2 := HR4.out.fz 2 (by omega)
    have f12 := HR4.out.fz 12 (by omega)
    have hrl := HR4.out.rlt
    go_upto_region 6 with fail
    have hrd : r = drawn d := HRE.out
    have hc5 := (((HR4.out.cbox.set 1 (.int .i64 1) (by show 1 < 17; omega)).set 2 (.int .i64 0) (by show 2 < 17; omega)).set 12 (.slice (some ⟨W4.heap.size, 0, none⟩) 1 1) (by show 12 < 17; omega))
    have hf5 : Fr (fun k => k = rb) W4 (((W4.setCell ⟨rb, 1, none⟩ (.int .i64 1)).setCell ⟨rb, 2, none⟩ (.int .i64 0)).setCell ⟨rb, 12, none⟩ (.slice (some ⟨W4.heap.size, 0, none⟩) 1 1)) := fr_core2 (fr_core2 (fr_core _ _ _ _) _ _) _ _
    have hsz5 : (((W4.setCell ⟨rb, 1, none⟩ (.int .i64 1)).setCell ⟨rb, 2, none⟩ (.int .i64 0)).setCell ⟨rb, 12, none⟩ (.slice (some ⟨W4.heap.size, 0, none⟩) 1 1)).heap.size = W4.heap.size := by rw [World.size_setCell, World.size_setCell, World.size_setCell]
    have hrow := row_fresh (((W4.setCell ⟨rb, 1, none⟩ (.int .i64 1)).setCell ⟨rb, 2, none⟩ (.int .i64 0)).setCell ⟨rb, 12, none⟩ (.slice (some ⟨W4.heap.size, 0, none⟩) 1 1)) s.id (b := base) (by rw [hsz5]; exact HR4.out.bs)
    rw [hsz5] at hrow
    have hr5 := HR4.out.revote (s' := s.stand1 d) (vv := .slice (some ⟨W4.heap.size, 0, none⟩) 1 1) (w' := (((W4.setCell ⟨rb, 1, none⟩ (.int .i64 1)).setCell ⟨rb, 2, none⟩ (.int .i64 0)).setCell ⟨rb, 12, none⟩ (.slice (some ⟨W4.heap.size, 0, none⟩) 1 1)).alloc (.cells #[.int .i64 s.id] 3)) (hf5.alloc _)
      (by
        have := hc5.below ((Below.refl _ _).alloc (Nat.le_refl _) (.cells #[.int .i64 s.id] 3))
        subst hrd
        exact this) hrow (fun k hk => by injection hk with hk; exact Nat.le_of_eq hk) rfl rfl rfl rfl rfl rfl rfl
    have HR5 := Lib.hid hr5.1
    have HP5 := Lib.hid ((PS.core HF4.out).trans hr5.2)
    clear hr5 hrow hc5 hf5 hsz5 c0 c1 c2 c12 f1 f2 f12 hrl HR4 HF4
    generalize (((W4.setCell ⟨rb, 1, none⟩ (.int .i64 1)).setCell ⟨rb, 2, none⟩ (.int .i64 0)).setCell ⟨rb, 12, none⟩ (.slice (some ⟨W4.heap.size, 0, none⟩) 1 1)).alloc (.cells #[.int .i64 s.id] 3) = W5 at *
    generalize W4.heap.size = g5 at *
    clear W4
    have HB5 := Lib.hid (HB.out.stand1 (d := d) ht)
    have HMS : Hid (({ h with vv := .slice (some ⟨g5, 0, none⟩) 1 1 } : Hd).mh = h.mh) := Lib.hid rfl
    have HND : Hid ((s.stand1 d).out.nd = s.out.nd) := Lib.hid rfl
    have hvv : ({ h with vv := .slice (some ⟨g5, 0, none⟩) 1 1 } : Hd).vv = .slice (some ⟨g5, 0, none⟩) 1 1 := rfl
    have HVT : Hid ((s.stand1 d).votes = [s.id]) := Lib.hid rfl
    have HST : Hid (RS.stand s d = if CL.won (s.stand1 d).all (s.stand1 d).votes = true then (s.stand1 d).win else (s.stand1 d).askAll) := Lib.hid rfl
    generalize hz : s.stand1 d = z at *
    obtain ⟨hh, hhe⟩ : ∃ hh : Hd, hh = { h with vv := .slice (some ⟨g5, 0, none⟩) 1 1 } := ⟨_, rfl⟩
    rw [← hhe] at HR5 HP5 HMS hvv
    clear hhe hz HB
    have HAL := Lib.hid (fun (W : World) (hW : Below W5.heap.size W5 W) => rf_all (HR5.out.below hW) HB5.out.da)
    have q12 : ∀ q : Later W5, q.1.cell? ⟨rb, 12, none⟩ = some (.slice (some ⟨g5, 0, none⟩) 1 1) := fun q => (HR5.out.q 12 (u := hh.vv) rfl q).trans (by rw [hvv])
    have HVV := Lib.hid hvv
    clear hvv
    go_upto_region 6 with fail
    refine Mix.region_mix (n := 6) (m := 2) (fun V => ∃ q : Later W5, V = q.1) [0, 2, 3, 4, 5] (by kernel_rfl) rfl rfl (by kernel_rfl) (by kernel_rfl) ⟨⟨_, (Below.refl _ _).drew⟩, rfl⟩ ?_
    repeat (refine Mix.picks_step rfl ?_; go_big_quiet_step (fail))
    refine Mix.picks_nil ?_
    intro inv
    refine sink_one (i := 1) (by kernel_rfl) rfl (by omega) inv (fun K hK => ?_)
    have HKK := Lib.hid hK
    clear hK
    go_simp
    with_reducible refine (HAL.out _ (Below.refl _ _).drew).mono ?_
    rintro e w6 ⟨v6, rfl, ho6, hb6⟩
    obtain ⟨p6, c6, hv6⟩ := owns_slice ho6
    subst hv6
    have hb56 : Below W5.heap.size W5 w6 := (Below.refl _ _).drew.trans (hb6.mono (Nat.le_refl _))
    have HB6 := Lib.hid hb56
    have HR6 := Lib.hid (HR5.out.below hb56)
    have hvo := HR6.out.all .votes
    dsimp only [holds] at hvo
    rw [HVV.out, HVT.out] at hvo
    have HWO := Lib.hid (won_ints p6 (some ⟨g5, 0, none⟩) z.all.length c6 1 1 z.all [s.id] w6 (RdI.of_own ho6 rfl) (RdI.of_own hvo rfl) (by have := HB5.out.all.2.1; omega) (by omega))
    clear ho6 hb6 hb56 hvo HAL
    refine HKK.out _ _ ⟨⟨_, HB6.out⟩, rfl⟩ ?_
    clear HKK inv
    intro hS inv
    (try simp only [Act.put]); (try simp only [List.setIfInBounds_toArray]); (try simp only [List.set_cons_succ]); (try simp only [List.set_cons_zero])
    refine sink_last (by kernel_rfl) rfl (by kernel_rfl) (fun K hK => ?_)
    have HKK := Lib.hid hK
    clear hK
    go_simp
    with_reducible refine (HWO.out).mono ?_
    rintro e w7 ⟨rfl, hb7⟩
    have HB7 := Lib.hid (HB6.out.trans (hb7.mono HB6.out.size))
    have HR7 := Lib.hid (HR6.out.below hb7)
    have HP7 := Lib.hid (HP5.out.trans (PS.still HB7.out))
    clear hb7 HWO HB6 HR6
    simp only [Oper.upon]
    refine HKK.out _ _ ⟨rfl, ?_⟩
    clear HKK inv hS
    clear q12
    cases hwn : CL.won z.all [s.id] with
    | true =>
      have HE : Hid (RS.stand s d = z.win) := Lib.hid (by rw [HST.out, HVT.out, if_pos hwn])
      have HWI := Lib.hid (rf_win HR7.out HB5.out hM hN (by rw [HMS.out]; omega) (by rw [HND.out]; omega))
      clear hwn
      go_wp2_with fail
      with_reducible refine (HWI.out).mono ?_
      rintro e w8 ⟨rfl, h8, hr8, hp8, hm8⟩
      have HF := Lib.hid (And.intro hr8 (And.intro (HP7.out.trans hp8) hm8))
      clear hr8 hp8 hm8
      go_wp2_with fail
      refine bodyPost_ret (results_none rfl _ _ _) rfl ?_
      exact ⟨rfl, h8, by rw [HE.out]; exact HF.out.1, HF.out.2.1, by have := HF.out.2.2; rw [HMS.out] at this; exact this⟩
    | false =>
      have HE : Hid (RS.stand s d = z.askAll) := Lib.hid (by rw [HST.out, HVT.out, if_neg (by rw [hwn]; exact Bool.false_ne_true)])
      have hll := HR7.out.all .log
      have HLA := Lib.hid (lg_last hll)
      have c10 : w7.cell? ⟨rb, 10, none⟩ = some (.pointer (some ⟨hh.xb, 0, none⟩)) := HR7.out.cell 10 rfl
      clear hwn hll
      obtain ⟨li, hli⟩ : ∃ x, (lastS z.b z.t z.l).1 = x := ⟨_, rfl⟩
      obtain ⟨lt, hlt⟩ : ∃ x, (lastS z.b z.t z.l).2 = x := ⟨_, rfl⟩
      rw [hli, hlt] at HLA
      have HLL := Lib.hid (And.intro hli hlt)
      clear hli hlt
      go_wp2_with fail
      with_reducible refine (HLA.out).mono ?_
      rintro e w8 ⟨rfl, hb8⟩
      have HR8 := Lib.hid (HR7.out.below hb8)
      have HP8 := Lib.hid (HP7.out.trans (PS.still hb8))
      have HO := Lib.hid (rf_others HR8.out HB5.out)
      clear hb8 c10 HLA HP7
      go_wp2_with fail
      with_reducible refine (HO.out).mono ?_
      rintro e w9 ⟨q, c, rfl, ho9, hb9⟩
      have HR9 := Lib.hid (HR8.out.below hb9)
      have HP9 := Lib.hid (HP8.out.trans (PS.still hb9))
      have HB9 := Lib.hid hb9
      have HO9 := Lib.hid ho9
      have hon := HB5.out.oth
      clear ho9 hb9 HO HP8
      generalize hL : z.others = L at *
      have HLE := Lib.hid hL
      clear hL
      have hon9 : L.length ≤ 9 := hon
      go_wp2
      go_loopw [75] (fun iv wr => ∃ (i : Nat) (h' : Hd), i ≤ L.length ∧ iv = .int .i64 i ∧ Hid (Rf rb base ((L.take i).foldl (fun r i => r.say { mg0 with kd := 1, tq := i, ix := li, lt := lt }) z) h' wr ∧ PS rb hh h' w9 wr ∧ h'.mh.length = h.mh.length + i)) (fun iv _ => L.length - (intOf iv).toNat)
      case atStart => exact ⟨0, hh, Nat.zero_le _, rfl, Lib.hid ⟨HR9.out, PS.refl _ _, by rw [HMS.out]; rfl⟩⟩
      case round =>
        obtain ⟨i, h', hi, rfl, HR⟩ := hrel
        by_cases hlt : i < L.length
        · have hltI : (i : Int) < (L.length : Int) := by omega
          obtain ⟨g, cap, hgv, hg1, hg2, hg3⟩ := owns_len HO9.out (by omega)
          injection hgv with hgv _ hgc
          subst hgv hgc
          have hrd := RdI.of_own HO9.out rfl
          have d1 := oth_cells HR8.out HB9.out hg1 hg2 (fun k hk => by obtain ⟨b, o, e, _, hc⟩ := hrd.2 (by omega); injection e with e; injection e with e1 e2 _; subst e1 e2; exact hc k hk) HR.out.2.1 i hlt
          rw [Nat.zero_add] at d1
          have HN : Hid ((L.take (i + 1)).foldl (fun r i => r.say { mg0 with kd := 1, tq := i, ix := li, lt := lt }) z = RS.say ((L.take i).foldl (fun r i => r.say { mg0 with kd := 1, tq := i, ix := li, lt := lt }) z) ⟨1, 0, HL.el L i, 0, li, lt, 0, 0, false, []⟩) := Lib.hid (by rw [take_snoc hlt, List.foldl_append]; rfl)
          have HSY := Lib.hid (rf_say2 ⟨1, 0, HL.el L i, 0, li, lt, 0, 0, false, []⟩ (.slice none 0 0) HR.out.1 (World.ownsRow_nil _ _ _ _) (fun k e => by cases e) (by have := HR.out.2.2; omega) w9 hh HR.out.2.1 (fun k e => by cases e))
          unfold mval at HSY
          dsimp only at HSY
          generalize HL.el L i = x at *
          clear hrd
          go_wp2_with fail
          with_reducible refine (HSY.out).mono ?_
          rintro e w10 ⟨rfl, h10, hr10, hp10, hm10⟩
          have HR10 := Lib.hid (And.intro hr10 (And.intro hp10 hm10))
          have HRM := Lib.hid HR.out.2.2
          clear hr10 hp10 hm10 HSY HR d1
          go_wp2
          go_roundw
          case rel => exact ⟨i + 1, h10, by omega, by go_num, Lib.hid ⟨by rw [HN.out]; exact HR10.out.1, HR10.out.2.1, by rw [HR10.out.2.2, HRM.out]; omega⟩⟩
          case measure => simp [intOf]; omega
        · obtain rfl : i = L.length := by omega
          go_wp2
          go_end0
          refine ⟨rfl, h', ?_, HP9.out.trans HR.out.2.1, by rw [HR.out.2.2]; omega⟩
          have := HR.out.1
          rw [List.take_length] at this
          rw [HE.out]
          unfold RS.askAll
          rw [HLE.out, HLL.out.1, HLL.out.2]
          exact this
end
end RF
end Go.Proofs.YtaodldagmmephaaGreat

/- raft: what an exported call tells; Tick. -/
namespace Go.Proofs.YtaodldagmmephaaGreat
open Go.RowKit Go.Maps
namespace RF
theorem own_hi {W : World} {b b' : Nat} {e : TypeId} {sz n : Nat} {v : Value} {xs : List Value} (h : W.ownsRow b e sz v n xs) (hb : ∀ k, v.ownBlock = some k → b' ≤ k) : W.ownsRow b' e sz v n xs := by
  obtain ⟨h1, h2⟩ := h
  refine ⟨h1, h2.imp id ?_⟩
  rintro ⟨g, cap, cur, a, hg, c⟩
  exact ⟨g, cap, cur, a, hb g (by rw [a]; rfl), c⟩
/-- Nothing is kept back to be told. -/
def Hd.clean (h : Hd) : Prop := h.ov = nilv ∧ h.mh = [] ∧ h.nv = nilv
/-- What was told, in memory. -/
def ToldAt (rb b : Nat) (o : Ot) (h' : Hd) (v : Value) (W : World) : Prop :=
  ∃ (ov nv : Value) (mh : List (Mg × Value)), v = .agg #[ov, .bool o.hd, .int .i64 o.fr, nv] ∧ mh.map (·.1) = o.ms ∧ W.ownsRow b 48 14 ov mh.length (rowOf mcells mh) ∧ (∀ x, x ∈ mh → W.ownsRow b 25 4 x.2 x.1.en.length (rowOf ecells x.1.en)) ∧
    W.ownsRow b 3 1 nv o.nd.length (rowOf ncells o.nd) ∧ ∀ k, (ov.ownBlock = some k ∨ (∃ x, x ∈ mh ∧ x.2.ownBlock = some k) ∨ nv.ownBlock = some k) → ¬ Fo rb h' k
/-- An exported call's answer. -/
def Ans (rb base : Nat) (s : RS) (h0 : Hd) (w : World) (e : Ending) (w' : World) : Prop :=
  ∃ v h', e = .returned v ∧ h'.clean ∧ Rf rb base s.fin h' w' ∧ PS rb h0 h' w w' ∧ ToldAt rb w.heap.size s.told h' v w'
section
variable {rb base : Nat} {s : RS} {h : Hd} {w : World} {M : Int} {N : Nat}
theorem rf_tell {h0 : Hd} {w1 : World} (H : Rf rb base s h w1) (hp : PS rb h0 h w w1) (hc : h0.clean) (hnd : s.out.nd.length ≤ 1000000) :
    Calls Tryz.prog 51 #[.pointer (some ⟨rb, 0, none⟩)] w1 (Ans rb base s h0 w) := by
  refine (rf_done H hnd).mono ?_
  rintro e w' ⟨nv, rfl, hr, hf, ho⟩
  have hin : ∀ k, h.ov.ownBlock = some k ∨ (∃ x, x ∈ h.mh ∧ x.2.ownBlock = some k) → ¬ k = rb := by
    rintro k (e | e) e2
    · have := H.dis .msgs .core k e e2; cases this
    · have := H.dis .ents .core k e e2; cases this
  have hnew : ∀ k, h.ov.ownBlock = some k ∨ (∃ x, x ∈ h.mh ∧ x.2.ownBlock = some k) → w.heap.size ≤ k := by
    rintro k (e | e)
    · rcases hp.2 .msgs k e with e2 | e2
      · have e2 : h0.ov.ownBlock = some k := e2
        rw [hc.1] at e2
        cases e2
      · exact e2
    · rcases hp.2 .ents k e with e2 | e2
      · obtain ⟨x, hx, _⟩ := e2
        rw [hc.2.1] at hx
        exact absurd hx List.not_mem_nil
      · exact e2
  have hsz := hp.1.size
  refine ⟨_, _, rfl, ⟨rfl, rfl, rfl⟩, hr, ⟨Fr.trans hp.1 (hf.mono (T := Fo rb h) (fun _ _ e => ⟨.core, e⟩)) (fun i hi hlt => ?_), fun p k hk => hp.2 p k (part_giveup hk)⟩, _, _, h.mh, rfl, (H.all .msgs).2, own_hi (hf.owns (H.all .msgs).1 (fun k hk => hin k (.inl hk))) (fun k hk => hnew k (.inl hk)), fun x hx => own_hi (hf.owns (H.all .ents x hx) (fun k hk => hin k (.inr ⟨x, hx, hk⟩))) (fun k hk => hnew k (.inr ⟨x, hx, hk⟩)), own_lo ho hsz, ?_⟩
  · obtain ⟨p, hp2⟩ := hi
    rcases hp.2 p i hp2 with h9 | h9
    · exact ⟨p, h9⟩
    · omega
  · rintro k hk ⟨p, hpk⟩
    have hpk' : part rb h p k := part_giveup hpk
    rcases hk with e | e | e
    · have := H.dis .msgs p k e hpk'
      subst this
      exact absurd hpk (by rintro ⟨⟩)
    · have := H.dis .ents p k e hpk'
      subst this
      obtain ⟨x, hx, _⟩ := hpk
      exact absurd hx List.not_mem_nil
    · have h1 := (ho.lt k e).1
      have h2 := (H.lt ⟨p, hpk'⟩).2
      omega
theorem Ans.form {h0 : Hd} {e : Ending} {w' : World} (A : Ans rb base s h0 w e w') : ∃ p1 n1 c1 p2 n2 c2, e = .returned (.agg #[.slice p1 n1 c1, .bool s.out.hd, .int .i64 s.out.fr, .slice p2 n2 c2]) := by
  obtain ⟨v, h', rfl, _, _, _, ov, nv, mh, rfl, _, h1, _, h2, _⟩ := A
  obtain ⟨p1, c1, e1⟩ := owns_slice h1
  obtain ⟨p2, c2, e2⟩ := owns_slice h2
  exact ⟨p1, _, c1, p2, _, c2, by rw [e1, e2]; rfl⟩
/-- The same behind the box of the results. -/
theorem Ans.boxed {s0 : RS} {h0 : Hd} {Wb w' W' : World} {e : Ending} (HR : Rf rb base s0 h0 w) (A : Ans rb base s h0 Wb e w') (hb : Below w.heap.size w Wb) (hsz : Wb.heap.size = w.heap.size + 1) (hF : Fr (fun k => k = w.heap.size) w' W') : Ans rb base s h0 w e W' := by
  obtain ⟨v, h', rfl, hc, hr, hp, ov, nv, mh, rfl, h1, h2, h3, h4, h5⟩ := A
  have hno : ∀ k, Fo rb h' k → ¬ k = w.heap.size := by
    rintro k ⟨p, hk⟩ e
    rcases hp.2 p k hk with e2 | e2
    · have := (HR.lt ⟨p, e2⟩).2; omega
    · omega
  have hne : ∀ {v' : Value} {k : Nat}, (∀ g, v'.ownBlock = some g → Wb.heap.size ≤ g) → v'.ownBlock = some k → ¬ k = w.heap.size := fun h k => by have := h _ k; omega
  have hw : PS rb h0 h' w w' := (PS.still hb).trans hp
  refine ⟨_, h', rfl, hc, hr.keep hF hno, ⟨Fr.trans hw.1 (hF.mono (T := fun k => w.heap.size ≤ k) (fun k _ e => by show _ ≤ k; omega)) (fun i hi hl => by have : w.heap.size ≤ i := hi; omega), hw.2⟩, ov, nv, mh, rfl, h1, own_lo (hF.owns h2 (fun k hk => hne (fun g hg => (h2.lt g hg).1) hk)) hb.size, fun x hx => own_lo (hF.owns (h3 x hx) (fun k hk => hne (fun g hg => ((h3 x hx).lt g hg).1) hk)) hb.size, own_lo (hF.owns h4 (fun k hk => hne (fun g hg => (h4.lt g hg).1) hk)) hb.size, h5⟩
end
end RF
end Go.Proofs.YtaodldagmmephaaGreat

/- raft: Tick. -/
namespace Go.Proofs.YtaodldagmmephaaGreat
open Go.RowKit Go.Maps
namespace Mix
theorem picks_cons {l : List Oper} {k : Nat} {ks : List Nat} {o : Oper} {l2 : List Oper} (h : nth l k = some o) (hr : picks l ks = l2) : picks l (k :: ks) = o :: l2 := by
  rw [nth_eq] at h
  unfold picks at hr ⊢
  rw [List.filterMap_cons, h, hr]
theorem picks_end {l : List Oper} : picks l [] = [] := rfl
/-- Mix.more, the operations written out. -/
theorem more2 {P : Program} {Q : Exit → Act → World → Prop} {S : World → Prop} {n m f : Nat} {l l2 : List Oper} {listed : Array Bool} {a : Act} {w : World} (ks : List Nat) (hm2 : ks.length + m = f)
    (hB : (Region.sinkB .any l.toArray n && Region.chainB .any l.toArray n && decide (n < l.toArray.size) && Region.noSelect l.toArray) = true) (ht : takeOk .any l.toArray n ks listed = true) (inv : HeadInv .any l.toArray n listed) (hS : S w) (hl : picks l ks = l2)
    (h : wpQuiet P l.toArray S (fun a' => HeadInv .any l.toArray n (setAll ks listed) → WpSink P .any l.toArray (fun e a W => e = .normal ∧ Q .normal a W) S n m (setAll ks listed) a' w) l2 a) :
    WpSink P .any l.toArray (fun e a W => e = .normal ∧ Q .normal a W) S n f listed a w := by
  subst hl
  exact Mix.more ks hm2 hB ht inv hS h
end Mix
namespace RF
section
variable {rb base : Nat} {s : RS} {h : Hd} {w : World} {M : Int} {N : Nat}
theorem fold_nd : ∀ (L : List Int) (s : RS), (L.foldl RS.send s).out.nd.length ≤ s.out.nd.length + L.length
  | [], s => Nat.le_refl _
  | y :: L, s => by
    have h1 := fold_nd L (s.send y)
    have h2 := send_nd s y
    rw [List.foldl_cons, List.length_cons]
    omega
theorem sendAll_nd (B : RB M N s) : s.sendAll.out.nd.length ≤ s.out.nd.length + 9 := Nat.le_trans (fold_nd _ _) (Nat.add_le_add_left B.oth _)
theorem RB.foldSend (L : List Int) : ∀ (s : RS), RB M N s → (∀ i ∈ L, 1 ≤ i ∧ i ≤ 64) → RB M N (L.foldl RS.send s) := by
  induction L with
  | nil => exact fun _ B _ => B
  | cons y L ih => exact fun s B h => ih _ (B.send (h y List.mem_cons_self).1 (h y List.mem_cons_self).2) (fun i hi => h i (List.mem_cons_of_mem _ hi))
theorem RB.sendAll (B : RB M N s) : RB M N s.sendAll := RB.foldSend _ _ B (fun i hi => ⟨(B.othId i hi).1, (B.othId i hi).2.1⟩)
theorem win_pre (B : RB M N s) (hM : M < 4503599627370496) (hN : N < 10000) : RB (M + 1) (N + 1) (((s.win1).knowAll (s.win1).others).add 0 ⟨#[]⟩).count ∧ (((s.win1).knowAll (s.win1).others).add 0 ⟨#[]⟩).count.out.nd = s.out.nd := by
  have B1 := B.win1
  have hba := B1.knowAll s.win1.others (fun x hx => ⟨(B1.othId x hx).1, (B1.othId x hx).2.1⟩)
  refine ⟨(hba.add 0 (da := ⟨#[]⟩) (by decide) hM hN).count, ?_⟩
  rw [count_nd]
  unfold RS.add
  rw [changed_nd]
  show ((s.win1).knowAll s.win1.others).out.nd = _
  rw [knowAll_out]
  rfl
theorem win_nd (B : RB M N s) (hM : M < 4503599627370496) (hN : N < 10000) : s.win.out.nd.length ≤ s.out.nd.length + 9 := by
  obtain ⟨h1, h2⟩ := win_pre B hM hN
  unfold RS.win
  dsimp only
  split
  · exact Nat.le_trans (sendAll_nd h1) (by rw [h2]; exact Nat.le_refl _)
  · rw [h2]; omega
theorem win_rb (B : RB M N s) (hM : M < 4503599627370496) (hN : N < 10000) : RB (M + 1) (N + 1) s.win := by
  obtain ⟨h1, h2⟩ := win_pre B hM hN
  unfold RS.win
  dsimp only
  split
  · exact h1.sendAll
  · exact h1
theorem askAll_out : ∀ (f : Int → Mg) (L : List Int) (s : RS), (L.foldl (fun r i => r.say (f i)) s).out.nd = s.out.nd
  | _, [], _ => rfl
  | f, y :: L, s => (askAll_out f L (s.say (f y))).trans rfl
theorem stand_nd {d : Int} (B : RB M N s) (hM : M < 4503599627370496) (hN : N < 10000) (ht : s.term < 1152921504606846976) : (s.stand d).out.nd.length ≤ s.out.nd.length + 9 := by
  unfold RS.stand
  split
  · exact win_nd (s := s.stand1 d) (B.stand1 ht) hM hN
  · unfold RS.askAll
    rw [askAll_out]
    exact Nat.le_add_right _ _
theorem RB.tick1 (B : RB M N s) : RB M N s.tick1 := B.of rfl rfl rfl rfl rfl rfl rfl rfl rfl

set_option maxHeartbeats 2000000 in
set_option maxRecDepth 100000 in
theorem rf_tick (d : Int) (hd1 : -9223372036854775808 ≤ d) (hd2 : d ≤ 9223372036854775807) (H : Rf rb base s h w) (B : RB M N s) (hM : M < 4503599627370496) (hN : N < 10000) (hcl : h.clean) (hout : s.out = ot0) (hel : 0 ≤ s.elapsed ∧ s.elapsed ≤ 4611686018427387904) :
    Calls Tryz.prog 28 #[.pointer (some ⟨rb, 0, none⟩), .int .i64 d] w (Ans rb base (s.tick0 d) h w) := by
  have HH := Lib.hid H
  have hrl := H.rlt
  have HBX : Hid (Below w.heap.size w (w.alloc (.cells #[.slice none 0 0, .bool false, .int .i64 0, .slice none 0 0] 37))) := Lib.hid ((Below.refl _ w).alloc (Nat.le_refl _) _)
  have HSZ : Hid ((w.alloc (.cells #[.slice none 0 0, .bool false, .int .i64 0, .slice none 0 0] 37)).heap.size = w.heap.size + 1) := Lib.hid (World.size_alloc _ _)
  have X2 := Lib.hid (CBox.fresh w [.slice none 0 0, .bool false, .int .i64 0, .slice none 0 0] 37)
  have HRb := Lib.hid (H.below HBX.out)
  have HNO := Lib.hid (rf_none HRb.out)
  have HCL := Lib.hid hcl
  have hms : h.mh.length = 0 := by rw [hcl.2.1]; rfl
  have hnd : s.out.nd.length = 0 := by rw [hout]; rfl
  have HBB := Lib.hid B
  clear H hcl B
  go_enter Tryz.func28, Tryz.ntmps28
  go_upto_region 1 with fail
  dsimp only [List.toArray] at X2
  generalize w.alloc (.cells #[.slice none 0 0, .bool false, .int .i64 0, .slice none 0 0] 37) = Wb at *
  go_upto_region 3 with (with_reducible refine HNO.out.mono ?_; rintro e Wb ⟨rfl, rfl⟩)
  have c6 : Wb.cell? ⟨rb, 6, none⟩ = some (.int .i64 s.elapsed) := HRb.out.cell 6 rfl
  have f6 := HRb.out.fz 6 (by omega)
  have hmin : IntKind.i64.wrap (s.elapsed + 1) = s.elapsed + 1 := IntWalk.i64_in _ (by omega)
  go_upto_block 0 with fail
  have hbw : PS rb h h Wb (Wb.setCell ⟨rb, 6, none⟩ (.int .i64 (min (s.elapsed + 1) 4611686018427387904))) := PS.core (fr_core _ _ _ _)
  have HP3 := Lib.hid hbw
  have HR3 : Hid (Rf rb base s.tick1 h (Wb.setCell ⟨rb, 6, none⟩ (.int .i64 (min (s.elapsed + 1) 4611686018427387904)))) := Lib.hid (HRb.out.put s.tick1 6 (.int .i64 (min (s.elapsed + 1) 4611686018427387904)) (by omega) rfl (same_refl s))
  have HB0 := Lib.hid HBB.out.tick1
  have HTK : Hid (s.tick0 d = if s.tick1.role = 2 then (if s.tick1.elapsed = 3 then ({ s.tick1 with elapsed := 0 } : RS).sendAll else s.tick1)
      else if s.tick1.id ∈ s.tick1.all ∧ s.tick1.timeout ≤ s.tick1.elapsed ∧ s.tick1.term < 1152921504606846976 then s.tick1.stand d else s.tick1) := Lib.hid rfl
  have HND : Hid (s.tick1.out.nd.length = 0) := Lib.hid hnd
  clear hbw c6 f6 hmin HNO HBB
  generalize Wb.setCell ⟨rb, 6, none⟩ (.int .i64 (min (s.elapsed + 1) 4611686018427387904)) = W3 at *
  generalize s.tick1 = z at *
  have c1 : W3.cell? ⟨rb, 1, none⟩ = some (.int .i64 z.role) := HR3.out.cell 1 rfl
  have c6 : W3.cell? ⟨rb, 6, none⟩ = some (.int .i64 z.elapsed) := HR3.out.cell 6 rfl
  have f6 := HR3.out.fz 6 (by omega)
  have q0 : ∀ q : Later W3, q.1.cell? ⟨rb, 0, none⟩ = some (.int .i64 z.id) := HR3.out.q 0 rfl
  have q3 : ∀ q : Later W3, q.1.cell? ⟨rb, 3, none⟩ = some (.int .i64 z.term) := HR3.out.q 3 rfl
  have q6 : ∀ q : Later W3, q.1.cell? ⟨rb, 6, none⟩ = some (.int .i64 z.elapsed) := HR3.out.q 6 rfl
  have q7 : ∀ q : Later W3, q.1.cell? ⟨rb, 7, none⟩ = some (.int .i64 z.timeout) := HR3.out.q 7 rfl
  have HAL := Lib.hid (fun (W : World) (hW : Below W3.heap.size W3 W) => rf_all (HR3.out.below hW) HB0.out.da)
  go_cut [] (fun wx => Hid (∃ h1, Rf rb base (s.tick0 d) h1 wx ∧ PS rb h h1 Wb wx ∧ (s.tick0 d).out.nd.length ≤ 9))
  case first =>
    by_cases hrole : z.role = 2
    · have d1 : (z.role == 2) = true := by simp [hrole]
      by_cases he3 : z.elapsed = 3
      · have d2 : (z.elapsed == 3) = true := by simp [he3]
        have HE : Hid (s.tick0 d = ({ z with elapsed := 0 } : RS).sendAll) := Lib.hid (by rw [HTK.out, if_pos hrole, if_pos he3])
        have hr4 := HR3.out.put { z with elapsed := 0 } 6 (.int .i64 0) (by omega) rfl (same_refl z)
        have hb4 : RB M N { z with elapsed := 0 } := HB0.out.of rfl rfl rfl rfl rfl rfl rfl rfl rfl
        have HSA := Lib.hid (rf_sendAll hr4 hb4 (by omega) (by show z.out.nd.length ≤ _; have := HND.out; omega))
        have HNS := Lib.hid (sendAll_nd hb4)
        have HF4 := Lib.hid (HP3.out.trans (PS.core (rb := rb) (h := h) (fr_core W3 rb 6 (.int .i64 0))))
        clear hrole he3 hr4 hb4 HAL q0 q3 q6 q7
        go_wp2_with fail
        with_reducible refine (HSA.out).mono ?_
        rintro e w8 ⟨rfl, h8, hr8, hp8, _⟩
        have HF : Hid (∃ h1, Rf rb base (s.tick0 d) h1 w8 ∧ PS rb h h1 Wb w8 ∧ (s.tick0 d).out.nd.length ≤ 9) := Lib.hid ⟨h8, by rw [HE.out]; exact hr8, HF4.out.trans hp8, by rw [HE.out]; exact Nat.le_trans HNS.out (by show z.out.nd.length + 9 ≤ 9; rw [HND.out]; omega)⟩
        clear hr8 hp8
        go_wp2
        go_meet
        case rel => exact HF
      · have d2 : (z.elapsed == 3) = false := by simp [he3]
        have HF : Hid (∃ h1, Rf rb base (s.tick0 d) h1 W3 ∧ PS rb h h1 Wb W3 ∧ (s.tick0 d).out.nd.length ≤ 9) := Lib.hid ⟨h, by rw [HTK.out, if_pos hrole, if_neg he3]; exact HR3.out, HP3.out, by rw [HTK.out, if_pos hrole, if_neg he3]; have := HND.out; omega⟩
        clear hrole he3 HAL q0 q3 q6 q7
        go_wp2
        go_meet
        case rel => exact HF
    · have d1 : (z.role == 2) = false := by simp [hrole]
      have HE : Hid (s.tick0 d = if z.id ∈ z.all ∧ z.timeout ≤ z.elapsed ∧ z.term < 1152921504606846976 then z.stand d else z) := Lib.hid (by rw [HTK.out, if_neg hrole])
      clear hrole c6 f6
      go_upto_region 8 with fail
      go_cut [33] (fun s33 wx => ∃ β : Bool, s33 = .bool β ∧ Hid (Below W3.heap.size W3 wx) ∧ Hid (Dec β (z.id ∈ z.all ∧ z.timeout ≤ z.elapsed ∧ z.term < 1152921504606846976)))
      case first =>
        rename_i J8 K8 hJ8 hK8
        cases hb1 : decide (z.id ∈ z.all) with
        | false =>
          have HN : Hid (Dec false (z.id ∈ z.all ∧ z.timeout ≤ z.elapsed ∧ z.term < 1152921504606846976)) := Lib.hid (Dec.f (fun hc => of_decide_eq_false hb1 hc.1))
          go_wp2_with fail
          refine Mix.region_mix (n := 25) (m := 21) (fun V => ∃ q : Later W3, V = q.1) [0, 2, 3, 4, 5] (by kernel_rfl) rfl rfl (by kernel_rfl) (by kernel_rfl) ⟨⟨_, (Below.refl _ _).drew⟩, rfl⟩ ?_
          repeat (refine Mix.picks_step rfl ?_; go_big_quiet_step (fail))
          refine Mix.picks_nil ?_
          intro inv
          refine sink_one (i := 1) (by kernel_rfl) rfl (by omega) inv (fun K hK => ?_)
          have HKK := Lib.hid hK
          clear hK
          go_simp
          with_reducible refine (HAL.out _ (Below.refl _ _).drew).mono ?_
          rintro e w6 ⟨v6, rfl, ho6, hb6⟩
          obtain ⟨p6, c6, hv6⟩ := owns_slice ho6
          subst hv6
          have hb36 : Below W3.heap.size W3 w6 := (Below.refl _ _).drew.trans (hb6.mono (Nat.le_refl _))
          have HB6 := Lib.hid hb36
          have HHS := Lib.hid (has_ints p6 z.all.length c6 w6.heap.size z.all z.id w6 (RdI.of_own ho6 rfl) (by have := HB0.out.all.2.1; omega))
          rw [hb1] at HHS
          clear ho6 hb6 hb36
          refine HKK.out _ _ ⟨⟨_, HB6.out⟩, rfl⟩ ?_
          clear HKK inv
          intro hS inv
          (try simp only [Act.put]); (try simp only [List.setIfInBounds_toArray]); (try simp only [List.set_cons_succ]); (try simp only [List.set_cons_zero])
          refine sink_one (i := 6) (by kernel_rfl) rfl (by omega) inv (fun K hK => ?_)
          have HKK := Lib.hid hK
          clear hK
          go_simp
          with_reducible refine (HHS.out).mono ?_
          rintro e w7 ⟨rfl, rfl⟩
          refine HKK.out _ _ ⟨⟨_, HB6.out⟩, rfl⟩ ?_
          clear HKK inv
          intro hS inv
          (try simp only [Act.put]); (try simp only [List.setIfInBounds_toArray]); (try simp only [List.set_cons_succ]); (try simp only [List.set_cons_zero])
          refine Mix.more2 [7, 8, 9, 10, 11, 12, 13, 14, 15, 16, 17, 18, 19, 20, 21, 22, 23, 24] (m := 1) rfl (by kernel_rfl) (by kernel_rfl) inv ⟨⟨_, HB6.out⟩, rfl⟩ (Mix.picks_cons rfl (Mix.picks_cons rfl (Mix.picks_cons rfl (Mix.picks_cons rfl (Mix.picks_cons rfl (Mix.picks_cons rfl (Mix.picks_cons rfl (Mix.picks_cons rfl (Mix.picks_cons rfl (Mix.picks_cons rfl (Mix.picks_cons rfl (Mix.picks_cons rfl (Mix.picks_cons rfl (Mix.picks_cons rfl (Mix.picks_cons rfl (Mix.picks_cons rfl (Mix.picks_cons rfl (Mix.picks_cons rfl Mix.picks_end)))))))))))))))))) ?_
          repeat (go_big_quiet_step (fail))
          refine wpQuiet_nil ?_
          clear inv
          intro inv
          refine sink_last (by kernel_rfl) rfl (by kernel_rfl) (fun K hK => ?_)
          have HKK := Lib.hid hK
          clear hK
          go_simp
          refine HKK.out _ _ ⟨rfl, ?_⟩
          clear HKK inv hS
          simp only [Exit.then]
          refine hK8 _ _ (Met.intro (hJ8 _ _ ?_))
          repeat apply Exists.intro
          refine ⟨?rel, rfl⟩
          case rel => exact ⟨_, rfl, HB6, HN⟩
        | true =>
          cases hb2 : decide (z.timeout ≤ z.elapsed) with
          | false =>
            have HN : Hid (Dec false (z.id ∈ z.all ∧ z.timeout ≤ z.elapsed ∧ z.term < 1152921504606846976)) := Lib.hid (Dec.f (fun hc => of_decide_eq_false hb2 hc.2.1))
            go_wp2_with fail
            refine Mix.region_mix (n := 25) (m := 21) (fun V => ∃ q : Later W3, V = q.1) [0, 2, 3, 4, 5] (by kernel_rfl) rfl rfl (by kernel_rfl) (by kernel_rfl) ⟨⟨_, (Below.refl _ _).drew⟩, rfl⟩ ?_
            repeat (refine Mix.picks_step rfl ?_; go_big_quiet_step (fail))
            refine Mix.picks_nil ?_
            intro inv
            refine sink_one (i := 1) (by kernel_rfl) rfl (by omega) inv (fun K hK => ?_)
            have HKK := Lib.hid hK
            clear hK
            go_simp
            with_reducible refine (HAL.out _ (Below.refl _ _).drew).mono ?_
            rintro e w6 ⟨v6, rfl, ho6, hb6⟩
            obtain ⟨p6, c6, hv6⟩ := owns_slice ho6
            subst hv6
            have hb36 : Below W3.heap.size W3 w6 := (Below.refl _ _).drew.trans (hb6.mono (Nat.le_refl _))
            have HB6 := Lib.hid hb36
            have HHS := Lib.hid (has_ints p6 z.all.length c6 w6.heap.size z.all z.id w6 (RdI.of_own ho6 rfl) (by have := HB0.out.all.2.1; omega))
            rw [hb1] at HHS
            clear ho6 hb6 hb36
            refine HKK.out _ _ ⟨⟨_, HB6.out⟩, rfl⟩ ?_
            clear HKK inv
            intro hS inv
            (try simp only [Act.put]); (try simp only [List.setIfInBounds_toArray]); (try simp only [List.set_cons_succ]); (try simp only [List.set_cons_zero])
            refine sink_one (i := 6) (by kernel_rfl) rfl (by omega) inv (fun K hK => ?_)
            have HKK := Lib.hid hK
            clear hK
            go_simp
            with_reducible refine (HHS.out).mono ?_
            rintro e w7 ⟨rfl, rfl⟩
            refine HKK.out _ _ ⟨⟨_, HB6.out⟩, rfl⟩ ?_
            clear HKK inv
            intro hS inv
            (try simp only [Act.put]); (try simp only [List.setIfInBounds_toArray]); (try simp only [List.set_cons_succ]); (try simp only [List.set_cons_zero])
            refine Mix.more2 [7, 8, 9, 10, 11, 12, 13, 14, 15, 16, 17, 18, 19, 20, 21, 22, 23, 24] (m := 1) rfl (by kernel_rfl) (by kernel_rfl) inv ⟨⟨_, HB6.out⟩, rfl⟩ (Mix.picks_cons rfl (Mix.picks_cons rfl (Mix.picks_cons rfl (Mix.picks_cons rfl (Mix.picks_cons rfl (Mix.picks_cons rfl (Mix.picks_cons rfl (Mix.picks_cons rfl (Mix.picks_cons rfl (Mix.picks_cons rfl (Mix.picks_cons rfl (Mix.picks_cons rfl (Mix.picks_cons rfl (Mix.picks_cons rfl (Mix.picks_cons rfl (Mix.picks_cons rfl (Mix.picks_cons rfl (Mix.picks_cons rfl Mix.picks_end)))))))))))))))))) ?_
            repeat (go_big_quiet_step (fail))
            refine wpQuiet_nil ?_
            clear inv
            intro inv
            refine sink_last (by kernel_rfl) rfl (by kernel_rfl) (fun K hK => ?_)
            have HKK := Lib.hid hK
            clear hK
            go_simp
            refine HKK.out _ _ ⟨rfl, ?_⟩
            clear HKK inv hS
            simp only [Exit.then]
            refine hK8 _ _ (Met.intro (hJ8 _ _ ?_))
            repeat apply Exists.intro
            refine ⟨?rel, rfl⟩
            case rel => exact ⟨_, rfl, HB6, HN⟩
          | true =>
            cases hb3 : decide (z.term < 1152921504606846976) with
            | false =>
              have HN : Hid (Dec false (z.id ∈ z.all ∧ z.timeout ≤ z.elapsed ∧ z.term < 1152921504606846976)) := Lib.hid (Dec.f (fun hc => of_decide_eq_false hb3 hc.2.2))
              go_wp2_with fail
              refine Mix.region_mix (n := 25) (m := 21) (fun V => ∃ q : Later W3, V = q.1) [0, 2, 3, 4, 5] (by kernel_rfl) rfl rfl (by kernel_rfl) (by kernel_rfl) ⟨⟨_, (Below.refl _ _).drew⟩, rfl⟩ ?_
              repeat (refine Mix.picks_step rfl ?_; go_big_quiet_step (fail))
              refine Mix.picks_nil ?_
              intro inv
              refine sink_one (i := 1) (by kernel_rfl) rfl (by omega) inv (fun K hK => ?_)
              have HKK := Lib.hid hK
              clear hK
              go_simp
              with_reducible refine (HAL.out _ (Below.refl _ _).drew).mono ?_
              rintro e w6 ⟨v6, rfl, ho6, hb6⟩
              obtain ⟨p6, c6, hv6⟩ := owns_slice ho6
              subst hv6
              have hb36 : Below W3.heap.size W3 w6 := (Below.refl _ _).drew.trans (hb6.mono (Nat.le_refl _))
              have HB6 := Lib.hid hb36
              have HHS := Lib.hid (has_ints p6 z.all.length c6 w6.heap.size z.all z.id w6 (RdI.of_own ho6 rfl) (by have := HB0.out.all.2.1; omega))
              rw [hb1] at HHS
              clear ho6 hb6 hb36
              refine HKK.out _ _ ⟨⟨_, HB6.out⟩, rfl⟩ ?_
              clear HKK inv
              intro hS inv
              (try simp only [Act.put]); (try simp only [List.setIfInBounds_toArray]); (try simp only [List.set_cons_succ]); (try simp only [List.set_cons_zero])
              refine sink_one (i := 6) (by kernel_rfl) rfl (by omega) inv (fun K hK => ?_)
              have HKK := Lib.hid hK
              clear hK
              go_simp
              with_reducible refine (HHS.out).mono ?_
              rintro e w7 ⟨rfl, rfl⟩
              refine HKK.out _ _ ⟨⟨_, HB6.out⟩, rfl⟩ ?_
              clear HKK inv
              intro hS inv
              (try simp only [Act.put]); (try simp only [List.setIfInBounds_toArray]); (try simp only [List.set_cons_succ]); (try simp only [List.set_cons_zero])
              refine Mix.more2 [7, 8, 9, 10, 11, 12, 13, 14, 15, 16, 17, 18, 19, 20, 21, 22, 23, 24] (m := 1) rfl (by kernel_rfl) (by kernel_rfl) inv ⟨⟨_, HB6.out⟩, rfl⟩ (Mix.picks_cons rfl (Mix.picks_cons rfl (Mix.picks_cons rfl (Mix.picks_cons rfl (Mix.picks_cons rfl (Mix.picks_cons rfl (Mix.picks_cons rfl (Mix.picks_cons rfl (Mix.picks_cons rfl (Mix.picks_cons rfl (Mix.picks_cons rfl (Mix.picks_cons rfl (Mix.picks_cons rfl (Mix.picks_cons rfl (Mix.picks_cons rfl (Mix.picks_cons rfl (Mix.picks_cons rfl (Mix.picks_cons rfl Mix.picks_end)))))))))))))))))) ?_
              repeat (go_big_quiet_step (fail))
              refine wpQuiet_nil ?_
              clear inv
              intro inv
              refine sink_last (by kernel_rfl) rfl (by kernel_rfl) (fun K hK => ?_)
              have HKK := Lib.hid hK
              clear hK
              go_simp
              refine HKK.out _ _ ⟨rfl, ?_⟩
              clear HKK inv hS
              simp only [Exit.then]
              refine hK8 _ _ (Met.intro (hJ8 _ _ ?_))
              repeat apply Exists.intro
              refine ⟨?rel, rfl⟩
              case rel => exact ⟨_, rfl, HB6, HN⟩
            | true =>
              have HN : Hid (Dec true (z.id ∈ z.all ∧ z.timeout ≤ z.elapsed ∧ z.term < 1152921504606846976)) := Lib.hid (Dec.t ⟨of_decide_eq_true hb1, of_decide_eq_true hb2, of_decide_eq_true hb3⟩)
              go_wp2_with fail
              refine Mix.region_mix (n := 25) (m := 21) (fun V => ∃ q : Later W3, V = q.1) [0, 2, 3, 4, 5] (by kernel_rfl) rfl rfl (by kernel_rfl) (by kernel_rfl) ⟨⟨_, (Below.refl _ _).drew⟩, rfl⟩ ?_
              repeat (refine Mix.picks_step rfl ?_; go_big_quiet_step (fail))
              refine Mix.picks_nil ?_
              intro inv
              refine sink_one (i := 1) (by kernel_rfl) rfl (by omega) inv (fun K hK => ?_)
              have HKK := Lib.hid hK
              clear hK
              go_simp
              with_reducible refine (HAL.out _ (Below.refl _ _).drew).mono ?_
              rintro e w6 ⟨v6, rfl, ho6, hb6⟩
              obtain ⟨p6, c6, hv6⟩ := owns_slice ho6
              subst hv6
              have hb36 : Below W3.heap.size W3 w6 := (Below.refl _ _).drew.trans (hb6.mono (Nat.le_refl _))
              have HB6 := Lib.hid hb36
              have HHS := Lib.hid (has_ints p6 z.all.length c6 w6.heap.size z.all z.id w6 (RdI.of_own ho6 rfl) (by have := HB0.out.all.2.1; omega))
              rw [hb1] at HHS
              clear ho6 hb6 hb36
              refine HKK.out _ _ ⟨⟨_, HB6.out⟩, rfl⟩ ?_
              clear HKK inv
              intro hS inv
              (try simp only [Act.put]); (try simp only [List.setIfInBounds_toArray]); (try simp only [List.set_cons_succ]); (try simp only [List.set_cons_zero])
              refine sink_one (i := 6) (by kernel_rfl) rfl (by omega) inv (fun K hK => ?_)
              have HKK := Lib.hid hK
              clear hK
              go_simp
              with_reducible refine (HHS.out).mono ?_
              rintro e w7 ⟨rfl, rfl⟩
              refine HKK.out _ _ ⟨⟨_, HB6.out⟩, rfl⟩ ?_
              clear HKK inv
              intro hS inv
              (try simp only [Act.put]); (try simp only [List.setIfInBounds_toArray]); (try simp only [List.set_cons_succ]); (try simp only [List.set_cons_zero])
              refine Mix.more2 [7, 8, 9, 10, 11, 12, 13, 14, 15, 16, 17, 18, 19, 20, 21, 22, 23, 24] (m := 1) rfl (by kernel_rfl) (by kernel_rfl) inv ⟨⟨_, HB6.out⟩, rfl⟩ (Mix.picks_cons rfl (Mix.picks_cons rfl (Mix.picks_cons rfl (Mix.picks_cons rfl (Mix.picks_cons rfl (Mix.picks_cons rfl (Mix.picks_cons rfl (Mix.picks_cons rfl (Mix.picks_cons rfl (Mix.picks_cons rfl (Mix.picks_cons rfl (Mix.picks_cons rfl (Mix.picks_cons rfl (Mix.picks_cons rfl (Mix.picks_cons rfl (Mix.picks_cons rfl (Mix.picks_cons rfl (Mix.picks_cons rfl Mix.picks_end)))))))))))))))))) ?_
              repeat (go_big_quiet_step (fail))
              refine wpQuiet_nil ?_
              clear inv
              intro inv
              refine sink_last (by kernel_rfl) rfl (by kernel_rfl) (fun K hK => ?_)
              have HKK := Lib.hid hK
              clear hK
              go_simp
              refine HKK.out _ _ ⟨rfl, ?_⟩
              clear HKK inv hS
              simp only [Exit.then]
              refine hK8 _ _ (Met.intro (hJ8 _ _ ?_))
              repeat apply Exists.intro
              refine ⟨?rel, rfl⟩
              case rel => exact ⟨_, rfl, HB6, HN⟩
      case rest =>
        obtain ⟨β, rfl, HBW, HBE⟩ := hcut
        have HR4 := Lib.hid (HR3.out.below HBW.out)
        have HP4 := Lib.hid (HP3.out.trans (PS.still HBW.out))
        clear HAL q0 q3 q6 q7
        cases β with
        | true =>
          have hc := HBE.out.1 rfl
          have HE2 : Hid (s.tick0 d = z.stand d) := Lib.hid (by rw [HE.out, if_pos hc])
          have HSD := Lib.hid (rf_stand d hd1 hd2 HR4.out HB0.out hM hN (by omega) (by have := HND.out; omega) hc.2.2)
          have HNS := Lib.hid (stand_nd (d := d) HB0.out hM hN hc.2.2)
          clear hc HE
          go_wp2_with fail
          with_reducible refine (HSD.out).mono ?_
          rintro e w8 ⟨rfl, h8, hr8, hp8, _⟩
          have HF : Hid (∃ h1, Rf rb base (s.tick0 d) h1 w8 ∧ PS rb h h1 Wb w8 ∧ (s.tick0 d).out.nd.length ≤ 9) := Lib.hid ⟨h8, by rw [HE2.out]; exact hr8, HP4.out.trans hp8, by rw [HE2.out]; have h1 := HNS.out; have h2 := HND.out; omega⟩
          clear hr8 hp8
          go_wp2
          go_meet
          case rel => exact HF
        | false =>
          have HF : Hid (∃ h1, Rf rb base (s.tick0 d) h1 wc ∧ PS rb h h1 Wb wc ∧ (s.tick0 d).out.nd.length ≤ 9) := Lib.hid (by
            have hc : s.tick0 d = z := by rw [HE.out, if_neg (fun hc => by have := HBE.out.2 hc; cases this)]
            rw [hc]
            exact ⟨h, HR4.out, HP4.out, by have := HND.out; omega⟩)
          go_wp2
          go_meet
          case rel => exact HF
  case rest =>
    clear c1 c6 f6 q0 q3 q6 q7 HAL HTK
    obtain ⟨h1, hr1, hp1, hn1⟩ := hcut.out
    have hx := X2.out.keep hp1.1 (fun e => by have := (HH.out.lt e).2; omega)
    have HTL := Lib.hid (rf_tell hr1 hp1 HCL.out (by omega))
    have HXC := Lib.hid hx
    clear hcut hr1 hp1 hx
    go_wp2_with fail
    with_reducible refine (HTL.out).mono ?_
    intro e w9 hA
    have HA := Lib.hid hA
    obtain ⟨p1, n1, k1, p2, n2, k2, rfl⟩ := hA.form
    have hx9 : CBox w.heap.size [.slice none 0 0, .bool false, .int .i64 0, .slice none 0 0] w9 := by
      obtain ⟨_, _, _, _, _, hp9, _⟩ := hA
      exact X2.out.keep hp9.1 (fun e => by have := (HH.out.lt e).2; omega)
    have t0 := hx9.1 0 _ rfl
    have t1 := hx9.1 1 _ rfl
    have t2 := hx9.1 2 _ rfl
    have t3 := hx9.1 3 _ rfl
    have u0 := hx9.2.1 0 (by show 0 < 4; omega)
    have u1 := hx9.2.1 1 (by show 1 < 4; omega)
    have u2 := hx9.2.1 2 (by show 2 < 4; omega)
    have u3 := hx9.2.1 3 (by show 3 < 4; omega)
    clear hA hx9 HTL HXC
    go_wp2_with fail
    refine bodyPost_ret (results_cell1 rfl _ _ _ ⟨w.heap.size, 0, none⟩ (.agg #[.slice p1 n1 k1, .bool (s.tick0 d).out.hd, .int .i64 (s.tick0 d).out.fr, .slice p2 n2 k2]) rfl (by go_simp)) rfl ?_
    exact Ans.boxed HH.out HA.out HBX.out HSZ.out ((((Fr.refl (fun k => k = w.heap.size) w9).setCell (p := ⟨w.heap.size, 0, none⟩) (fun _ => rfl) _).setCell (p := ⟨w.heap.size, 1, none⟩) (fun _ => rfl) _).setCell (p := ⟨w.heap.size, 2, none⟩) (fun _ => rfl) _ |>.setCell (p := ⟨w.heap.size, 3, none⟩) (fun _ => rfl) _)
end
end RF
end Go.Proofs.YtaodldagmmephaaGreat

/- raft, plain: what Step makes of a core keeps its bounds. -/
namespace Go.Proofs.YtaodldagmmephaaGreat
open Go.RowKit Go.Maps
theorem lastS_nil (i t : Int) : lastS i t [] = (i, t) := rfl
theorem lastS_append : ∀ (a c : List En) (i t : Int), lastS i t (a ++ c) = lastS (lastS i t a).1 (lastS i t a).2 c
  | [], c, i, t => rfl
  | x :: a, c, i, t => by rw [List.cons_append, lastS_cons, lastS_cons]; exact lastS_append a c x.ix x.tm
theorem follow_append : ∀ (a c : List En) (i t : Int), followB i t (a ++ c) = true ↔ followB i t a = true ∧ followB (lastS i t a).1 (lastS i t a).2 c = true
  | [], c, i, t => by simp [followB, lastS_nil]
  | x :: a, c, i, t => by
    rw [lastS_cons]
    show (decide (x.ix = i + 1) && (decide (t ≤ x.tm) && followB x.ix x.tm (a ++ c))) = true ↔ (decide (x.ix = i + 1) && (decide (t ≤ x.tm) && followB x.ix x.tm a)) = true ∧ _
    simp only [Bool.and_eq_true, decide_eq_true_eq]
    rw [follow_append a c x.ix x.tm]
    constructor
    · rintro ⟨a, b, c, d⟩; exact ⟨⟨a, b, c⟩, d⟩
    · rintro ⟨⟨a, b, c⟩, d⟩; exact ⟨a, b, c, d⟩
theorem follow_take {i t : Int} {l : List En} (k : Nat) (h : followB i t l = true) : followB i t (l.take k) = true := by
  have h1 := (follow_append (l.take k) (l.drop k) i t).1 (by rw [List.take_append_drop]; exact h)
  exact h1.1
theorem en_take_succ {l : List En} {k : Nat} (hk : k < l.length) : l.take (k + 1) = l.take k ++ [HL.el l k] := by
  rw [List.take_add_one]
  congr 1
  unfold HL.el
  simp [List.getElem?_eq_getElem hk]
/-- The term at a place is the last one's of what stands up to it. -/
theorem take_last {b t x : Int} {l : List En} (j : Nat) (hj : j ≤ l.length) (h : followB b t l = true) (ht : termS b t l (b + (j : Int)) = some x) : lastS b t (l.take j) = (b + (j : Int), x) := by
  cases j with
  | zero =>
    unfold termS at ht
    rw [if_pos (by simp)] at ht
    injection ht with ht
    subst ht
    simp [lastS_nil]
  | succ j =>
    rw [en_take_succ (by omega), lastS_snoc]
    have h1 := follow_ix l b t j h (by omega)
    unfold termS at ht
    rw [if_neg (by omega)] at ht
    unfold atS at ht
    rw [if_neg (by omega)] at ht
    have e : (b + ((j + 1 : Nat) : Int) - b - 1).toNat = j := by omega
    rw [e] at ht
    injection ht with ht
    have ht : (HL.el l j).tm = x := ht
    rw [h1, ht]
    congr 1
    omega
theorem mgo_same (b t keep : Int) (L : List En) (F : Nat) : ∀ (r : List En) (i : Nat), mgo b t keep L i 0 r = some (F + 1) → i < F → termS b t L (HL.el r (F - i - 1)).ix = some (HL.el r (F - i - 1)).tm
  | [], _, h, _ => absurd (Option.some.inj h) (by omega)
  | e :: r, i, h, hi => by
    unfold mgo at h
    rw [if_pos rfl] at h
    by_cases h1 : termS b t L e.ix = some e.tm
    · rw [if_pos h1] at h
      by_cases h3 : F = i + 1
      · have e0 : F - i - 1 = 0 := by omega
        rw [e0]
        exact h1
      · have e0 : F - i - 1 = (F - (i + 1) - 1) + 1 := by omega
        rw [e0]
        exact mgo_same b t keep L F r (i + 1) h (by omega)
    · rw [if_neg h1] at h
      by_cases h2 : (termS b t L e.ix).isSome ∧ e.ix ≤ keep
      · rw [if_pos h2] at h
        exact absurd h (by simp)
      · rw [if_neg h2] at h
        have := mgo_keep b t keep L r _ _ _ h (by omega)
        omega
theorem mgo_new (b t keep : Int) (L : List En) (F : Nat) : ∀ (r : List En) (i : Nat), mgo b t keep L i 0 r = some (F + 1) → ¬ ((termS b t L (HL.el r (F - i)).ix).isSome ∧ (HL.el r (F - i)).ix ≤ keep)
  | [], _, h => absurd (Option.some.inj h) (by omega)
  | e :: r, i, h => by
    have hf := mgo_first b t keep L F (e :: r) i h
    unfold mgo at h
    rw [if_pos rfl] at h
    by_cases h1 : termS b t L e.ix = some e.tm
    · rw [if_pos h1] at h
      have h2 := mgo_first b t keep L F r (i + 1) h
      have e0 : F - i = (F - (i + 1)) + 1 := by omega
      rw [e0]
      exact mgo_new b t keep L F r (i + 1) h
    · rw [if_neg h1] at h
      by_cases h2 : (termS b t L e.ix).isSome ∧ e.ix ≤ keep
      · rw [if_pos h2] at h
        exact absurd h (by simp)
      · rw [if_neg h2] at h
        have := mgo_keep b t keep L r _ _ _ h (by omega)
        have e0 : F - i = 0 := by omega
        rw [e0]
        exact h2
/-- A Merge that answers yes: the log goes on, up to the last of what was told, or stays. -/
structure MergeI (b t : Int) (L : List En) (prev tm keep : Int) (l : List En) : Prop where
  seen : termS b t L prev = some tm
  foll : followB prev tm l = true
  same : (mergeS b t L prev tm keep l).1.1 = 0 → (mergeS b t L prev tm keep l).2 = L
  grow : (mergeS b t L prev tm keep l).1.1 ≠ 0 → ∃ F j : Nat, F < l.length ∧ j ≤ L.length ∧ (mergeS b t L prev tm keep l).1.1 = prev + (F : Int) + 1 ∧ b + (j : Int) = prev + (F : Int) ∧ (mergeS b t L prev tm keep l).2 = L.take j ++ l.drop F ∧ (L.length = j ∨ keep < b + (j : Int) + 1)
theorem merge_parts {b t : Int} {L : List En} {prev tm keep : Int} {l : List En} (hb : 0 ≤ b) (h : (mergeS b t L prev tm keep l).1.2 = true) : MergeI b t L prev tm keep l := by
  unfold mergeS at h
  by_cases hq : termS b t L prev = some tm ∧ followB prev tm l = true
  · have hM : mergeS b t L prev tm keep l = match mgo b t keep L 0 0 l with
      | none => ((0, false), L)
      | some 0 => ((0, true), L)
      | some (f + 1) => (((HL.el l f).ix, true), L.take ((HL.el l f).ix - b - 1).toNat ++ l.drop f) := by
      unfold mergeS
      rw [if_pos hq]
      cases mgo b t keep L 0 0 l with
      | none => rfl
      | some f => cases f <;> rfl
    rw [if_pos hq] at h
    cases hm : mgo b t keep L 0 0 l with
    | none => rw [hm] at h; cases h
    | some f =>
      cases f with
      | zero =>
        rw [hm] at hM
        refine ⟨hq.1, hq.2, fun _ => by rw [hM], fun h0 => absurd (by rw [hM]) h0⟩
      | succ F =>
        rw [hm] at hM
        obtain ⟨h1, h2, h3, h4⟩ := mgo_place b t keep L F prev tm l hq.1 hq.2 hm
        have hj : (((HL.el l F).ix - b - 1).toNat : Int) = (HL.el l F).ix - b - 1 := by omega
        refine ⟨hq.1, hq.2, fun h0 => ?_, fun _ => ⟨F, ((HL.el l F).ix - b - 1).toNat, h1, by omega, by rw [hM]; exact h2, by omega, by rw [hM], ?_⟩⟩
        · rw [hM] at h0
          have : (HL.el l F).ix = 0 := h0
          omega
        · by_cases hlen : L.length = ((HL.el l F).ix - b - 1).toNat
          · exact .inl hlen
          · refine .inr ?_
            rw [hj]
            have hnew := mgo_new b t keep L F l 0 hm
            have e0 : F - 0 = F := by omega
            rw [e0] at hnew
            have hs : (termS b t L (HL.el l F).ix).isSome := by
              unfold termS
              rw [if_neg (by omega)]
              unfold atS
              rw [if_neg (by omega)]
              rfl
            by_cases hk : (HL.el l F).ix ≤ keep
            · exact absurd ⟨hs, hk⟩ hnew
            · omega
  · rw [if_neg hq] at h
    cases h

theorem mem_drop {α : Type} {l : List α} {k : Nat} {x : α} (h : x ∈ l.drop k) : x ∈ l := List.mem_of_mem_drop h
/-- What stands behind a Merge. -/
theorem merge_log {b t : Int} {L : List En} {prev tm keep : Int} {l : List En} (hok : newOk b t L = true) (h : (mergeS b t L prev tm keep l).1.2 = true) :
    newOk b t (mergeS b t L prev tm keep l).2 = true ∧ (lastS b t (mergeS b t L prev tm keep l).2).1 ≤ max (lastS b t L).1 (prev + (l.length : Int)) ∧ (mergeS b t L prev tm keep l).2.length ≤ L.length + l.length ∧ (∀ e ∈ (mergeS b t L prev tm keep l).2, e ∈ L ∨ e ∈ l) ∧
      ((mergeS b t L prev tm keep l).2 = L ∨ ∃ e, e ∈ l ∧ (lastS b t (mergeS b t L prev tm keep l).2).2 = e.tm) := by
  obtain ⟨h1, h2, h3⟩ := RF.newOk_parts hok
  have I := merge_parts h1 h
  by_cases h0 : (mergeS b t L prev tm keep l).1.1 = 0
  · rw [I.same h0]
    exact ⟨hok, by omega, by omega, fun e he => .inl he, .inl rfl⟩
  · obtain ⟨F, j, g1, g2, g3, g4, g5, _⟩ := I.grow h0
    rw [g5]
    have hx : ∃ x, termS b t L (b + (j : Int)) = some x ∧ followB (b + (j : Int)) x (l.drop F) = true := by
      rw [g4]
      have hd := (follow_append (l.take F) (l.drop F) prev tm).1 (by rw [List.take_append_drop]; exact I.foll)
      by_cases hF : F = 0
      · subst hF
        refine ⟨tm, by rw [show prev + ((0 : Nat) : Int) = prev by omega]; exact I.seen, ?_⟩
        have := hd.2
        simpa [lastS_nil] using this
      · have hm : mgo b t keep L 0 0 l = some (F + 1) := by
          unfold mergeS at g3 h0
          rw [if_pos ⟨I.seen, I.foll⟩] at g3 h0
          cases hm : mgo b t keep L 0 0 l with
          | none => rw [hm] at h0; exact absurd rfl h0
          | some f =>
            cases f with
            | zero => rw [hm] at h0; exact absurd rfl h0
            | succ f =>
              rw [hm] at g3
              have h9 := mgo_place b t keep L f prev tm l I.seen I.foll hm
              have : (HL.el l f).ix = prev + (F : Int) + 1 := g3
              have : f = F := by omega
              rw [this]
        have h8 := mgo_same b t keep L F l 0 hm (by omega)
        have e1 : F - 0 - 1 = F - 1 := by omega
        rw [e1] at h8
        have h7 := follow_ix l prev tm (F - 1) I.foll (by omega)
        have e2 : (HL.el l (F - 1)).ix = prev + (F : Int) := by omega
        have h6 := hd.2
        have e3 : l.take F = l.take (F - 1) ++ [HL.el l (F - 1)] := by
          have := en_take_succ (l := l) (k := F - 1) (by omega)
          rw [show F - 1 + 1 = F by omega] at this
          exact this
        rw [e3, lastS_snoc, e2] at h6
        rw [e2] at h8
        exact ⟨_, h8, h6⟩
    obtain ⟨x, hx1, hx2⟩ := hx
    have hl := take_last j g2 h3 hx1
    have hfa : followB b t (L.take j ++ l.drop F) = true := (follow_append _ _ _ _).2 ⟨follow_take j h3, by rw [hl]; exact hx2⟩
    have hlen : (L.take j ++ l.drop F).length = j + (l.length - F) := by rw [List.length_append, List.length_take, List.length_drop]; omega
    refine ⟨?_, ?_, by omega, fun e he => ?_, .inr ?_⟩
    · unfold newOk
      simp only [Bool.and_eq_true, decide_eq_true_eq]
      exact ⟨h1, h2, hfa⟩
    · have h5 := RF.follow_last _ _ _ hfa
      rw [h5, hlen]
      omega
    · rcases List.mem_append.1 he with h5 | h5
      · exact .inl (List.mem_of_mem_take h5)
      · exact .inr (mem_drop h5)
    · have h5 : l.drop F ≠ [] := by
        intro e
        have := congrArg List.length e
        rw [List.length_drop] at this
        simp at this
        omega
      rw [lastS_append]
      obtain ⟨y, hy⟩ : ∃ y, y ∈ (l.drop F) ∧ ∀ i t, (lastS i t (l.drop F)).2 = y.tm := by
        generalize l.drop F = r at *
        refine ⟨r.getLast h5, List.getLast_mem h5, fun i t => ?_⟩
        have e := (List.dropLast_concat_getLast h5)
        have := lastS_snoc i t r.dropLast (r.getLast h5)
        rw [e] at this
        rw [this]
      exact ⟨y, mem_drop hy.1, hy.2 _ _⟩
namespace RF
section
variable {rb base : Nat} {s : RS} {h : Hd} {w : World} {M : Int} {N : Nat}
theorem say_nd (s : RS) (m : Mg) : (s.say m).out.nd = s.out.nd := rfl
theorem RB.late (B : RB M N s) (m : Mg) : RB M N (s.late m) := by
  unfold RS.late
  split
  · exact B.say
  · split
    · exact B.say
    · split
      · exact B.say
      · exact B
theorem RB.turn (B : RB M N s) {m : Mg} (h : m.tm ≤ 1152921504606846976) : RB M N (s.turn m) := by
  unfold RS.turn
  split
  · exact B.down h
  · exact B
theorem RB.voteReq (B : RB M N s) (m : Mg) : RB M N (s.voteReq m) := by
  unfold RS.voteReq RS.grant
  split
  · exact RB.say (B.of rfl rfl rfl rfl rfl rfl rfl rfl rfl)
  · exact B.say
theorem RB.voteRes1 (B : RB M N s) (m : Mg) : RB M N (s.voteRes1 m) := by
  unfold RS.voteRes1
  split
  · exact B
  · exact B.of rfl rfl rfl rfl rfl rfl rfl rfl rfl
theorem voteRes1_nd (s : RS) (m : Mg) : (s.voteRes1 m).out = s.out := by
  unfold RS.voteRes1
  split <;> rfl
theorem RB.voteRes (B : RB M N s) (m : Mg) (hM : M < 4503599627370496) (hN : N < 10000) : RB (M + 1) (N + 1) (s.voteRes m) ∧ (s.voteRes m).out.nd.length ≤ s.out.nd.length + 9 := by
  have hB := B.mono (M' := M + 1) (N' := N + 1) (by omega) (by omega) (by omega) (by omega)
  unfold RS.voteRes
  split
  · exact ⟨hB, by omega⟩
  · split
    · exact ⟨win_rb (B.voteRes1 m) hM hN, by have := win_nd (B.voteRes1 m) hM hN; rw [voteRes1_nd] at this; exact this⟩
    · exact ⟨hB.voteRes1 m, by rw [voteRes1_nd]; omega⟩
theorem RB.follow (B : RB M N s) (m : Mg) : RB M N (s.follow m) := by
  unfold RS.follow
  split
  · exact B
  · exact B.of rfl rfl rfl rfl rfl rfl rfl rfl rfl
theorem RB.changed (B : RB M N s) (x : Int) : RB M N (s.changed x) := by
  unfold RS.changed
  split
  · exact B.of rfl rfl rfl rfl rfl rfl rfl rfl rfl
  · exact B
theorem RB.appTo (B : RB M N s) (m : Mg) {x : Int} (h : x ≤ M) : RB M N (s.appTo m x) := by
  unfold RS.appTo
  have hc := B.commit
  split
  · exact ⟨B.id, B.log, B.top, B.big, B.few, B.low, B.da, B.snap, B.ps, B.nd, B.term, B.round, ⟨by show 0 ≤ min m.cm x; omega, by show min m.cm x ≤ M; omega⟩, B.ltm⟩
  · exact B
theorem appTo_nd (s : RS) (m : Mg) (x : Int) : (s.appTo m x).out.nd = s.out.nd := by unfold RS.appTo; split <;> rfl
theorem RB.merged (B : RB M N s) (m : Mg) (n : Nat) (hn : m.en.length ≤ n) (hM : M + (n : Int) ≤ 4503599627370496) (hN : N + n ≤ 10000) (hda : ∀ e ∈ m.en, e.da.size ≤ 2000000) (htm : m.tm ≤ s.term) (hany : ¬ m.en.any (fun e => decide (m.tm < e.tm)) = true) (hok : (mergeS s.b s.t s.l m.ix m.lt s.commit m.en).1.2 = true) :
    RB (M + (n : Int)) (N + n) { s with l := (mergeS s.b s.t s.l m.ix m.lt s.commit m.en).2 } := by
  obtain ⟨h1, h2, h3, h4, h5⟩ := merge_log B.log hok
  have I := merge_parts (newOk_parts B.log).1 hok
  have hp := (term_has I.seen).2
  have hla := B.lastE
  have hla2 : (lastS s.b s.t s.l).1 = s.last := rfl
  have ht := B.top
  have hf := B.few
  have hc := B.commit
  refine ⟨B.id, h1, ?_, hM, ?_, hN, ?_, B.snap, fun x hx => by have := B.ps x hx; omega, B.nd, B.term, B.round, ⟨hc.1, by show s.commit ≤ _; omega⟩, ?_⟩
  · show (lastS s.b s.t (mergeS s.b s.t s.l m.ix m.lt s.commit m.en).2).1 ≤ _
    omega
  · show (mergeS s.b s.t s.l m.ix m.lt s.commit m.en).2.length ≤ _
    omega
  · intro e he
    rcases h4 e he with h6 | h6
    · exact B.da e h6
    · exact hda e h6
  · show (lastS s.b s.t (mergeS s.b s.t s.l m.ix m.lt s.commit m.en).2).2 ≤ s.term
    rcases h5 with h6 | ⟨e, h6, h7⟩
    · rw [h6]; exact B.ltm
    · rw [h7]
      rw [List.any_eq_true] at hany
      have : ¬ m.tm < e.tm := fun h8 => hany ⟨e, h6, decide_eq_true h8⟩
      omega
theorem RB.appReq (B : RB M N s) (m : Mg) (n : Nat) (hn : m.en.length ≤ n) (hM : M + (n : Int) ≤ 4503599627370496) (hN : N + n ≤ 10000) (hda : ∀ e ∈ m.en, e.da.size ≤ 2000000) (htm : m.tm ≤ s.term) : RB (M + (n : Int)) (N + n) (s.appReq m) := by
  have hB := B.mono (M' := M + (n : Int)) (N' := N + n) (by omega) hM (by omega) hN
  unfold RS.appReq
  by_cases h1 : m.ix < s.b
  · rw [if_pos h1]; exact hB.say
  rw [if_neg h1]
  by_cases h2 : termS s.b s.t s.l m.ix ≠ some m.lt
  · rw [if_pos h2]; exact hB.say
  rw [if_neg h2]
  by_cases h3 : m.en.any (fun e => decide (m.tm < e.tm)) = true
  · rw [if_pos h3]; exact hB
  rw [if_neg h3]
  by_cases h4 : (mergeS s.b s.t s.l m.ix m.lt s.commit m.en).1.2 = false
  · rw [if_pos h4]; exact hB
  rw [if_neg h4]
  have h5 : (mergeS s.b s.t s.l m.ix m.lt s.commit m.en).1.2 = true := by simpa using h4
  have hm := B.merged m n hn hM hN hda htm h3 h5
  have I := merge_parts (newOk_parts B.log).1 h5
  have hp := (term_has I.seen).2
  have hla := B.lastE
  have ht := B.top
  have hix : m.ix + (m.en.length : Int) ≤ M + (n : Int) := by omega
  dsimp only
  refine RB.say (RB.appTo ?_ m hix)
  split
  · exact hm.changed _
  · exact hm
theorem appReq_nd (s : RS) (m : Mg) : (s.appReq m).out.nd = s.out.nd := by
  unfold RS.appReq
  split
  · rfl
  split
  · rfl
  split
  · rfl
  split
  · rfl
  dsimp only
  rw [say_nd, appTo_nd]
  split
  · rw [changed_nd]
  · rfl
theorem pset_keys (ps : List (Int × Pr)) (id : Int) (p : Pr) : (pset ps id p).map (·.1) = ps.map (·.1) := by
  unfold pset
  rw [List.map_map]
  refine List.map_congr_left (fun x _ => ?_)
  show (if x.1 == id then (id, p) else x).1 = x.1
  by_cases h : x.1 = id
  · rw [if_pos (by simp [h])]; exact h.symm
  · rw [if_neg (by simp [h])]
theorem RB.setPr (B : RB M N s) {id : Int} {p : Pr} (h1 : 1 ≤ p.nx ∧ p.nx ≤ M + 1) (h2 : 0 ≤ p.mt ∧ p.mt ≤ M) (h3 : 0 ≤ p.rd ∧ p.rd ≤ 4611686018427387904) : RB M N (s.setPr id p) := by
  refine ⟨B.id, B.log, B.top, B.big, B.few, B.low, B.da, B.snap, fun x hx => ?_, ?_, B.term, B.round, B.commit, B.ltm⟩
  · have hx : x ∈ pset s.ps id p := hx
    unfold pset at hx
    obtain ⟨y, hy, rfl⟩ := List.mem_map.1 hx
    have h9 := B.ps y hy
    by_cases h : y.1 = id
    · rw [if_pos (by simp [h])]
      exact ⟨by rw [← h]; exact h9.1, h1, h2, h3⟩
    · rw [if_neg (by simp [h])]
      exact h9
  · show ((pset s.ps id p).map (·.1)).Nodup
    rw [pset_keys]
    exact B.nd
/-- A peer who is known has bounds. -/
theorem RB.prK (B : RB M N s) {id : Int} {p : Pr} (h : pget s.ps id = some p) : (1 ≤ p.nx ∧ p.nx ≤ M + 1) ∧ (0 ≤ p.mt ∧ p.mt ≤ M) ∧ (0 ≤ p.rd ∧ p.rd ≤ 4611686018427387904) := by
  unfold pget at h
  rw [Option.map_eq_some_iff] at h
  obtain ⟨x, hx, rfl⟩ := h
  exact (B.ps x (List.mem_of_find?_eq_some hx)).2
theorem RB.heard (B : RB M N s) {m : Mg} (h : pget s.ps m.fr = some (s.pr m.fr)) : (1 ≤ (s.heard m).nx ∧ (s.heard m).nx ≤ M + 1) ∧ (0 ≤ (s.heard m).mt ∧ (s.heard m).mt ≤ M) ∧ (0 ≤ (s.heard m).rd ∧ (s.heard m).rd ≤ 4611686018427387904) := by
  have h1 := B.prK h
  have h2 := B.round
  unfold RS.heard
  split
  · exact ⟨h1.1, h1.2.1, ⟨by show 0 ≤ max _ _; omega, by show max _ _ ≤ _; omega⟩⟩
  · exact h1
theorem RB.appRes (B : RB M N s) (m : Mg) : RB M N (s.appRes m) ∧ (s.appRes m).out.nd.length ≤ s.out.nd.length + 1 := by
  unfold RS.appRes
  by_cases h1 : s.role ≠ 2 ∨ ¬ m.fr ∈ s.others
  · rw [if_pos h1]; exact ⟨B, by omega⟩
  rw [if_neg h1]
  have hin : m.fr ∈ s.others := by
    by_cases h : m.fr ∈ s.others
    · exact h
    · exact absurd (.inr h) h1
  have hid := B.othId _ hin
  have hk := B.know hid.1 hid.2.1
  have hkp := know_pr s m.fr
  have hko := know_nd s m.fr
  have hkl : (s.know m.fr).last = s.last := (know_last s m.fr).1
  dsimp only
  rw [← hko, ← hkl]
  generalize s.know m.fr = k at *
  by_cases h2 : m.ok = true ∧ (m.ix < 0 ∨ k.last < m.ix)
  · rw [if_pos h2]; exact ⟨hk, by omega⟩
  rw [if_neg h2]
  have hh := hk.heard hkp
  by_cases h3 : m.ok = false
  · rw [if_pos h3]
    unfold RS.appNo
    have hb : backS (k.heard m) m.ix ≤ (k.heard m).nx - 1 := by
      unfold backS
      split <;> omega
    have hs := hk.setPr (id := m.fr) (p := { k.heard m with nx := max (max ((k.heard m).mt + 1) (backS (k.heard m) m.ix)) 1 }) ⟨by show 1 ≤ max _ _; omega, by show max _ _ ≤ _; omega⟩ hh.2.1 hh.2.2
    exact ⟨hs.send hid.1 hid.2.1, send_nd _ _⟩
  · rw [if_neg h3]
    unfold RS.appYes
    have htop := hk.top
    have hix : 0 ≤ m.ix ∧ m.ix ≤ k.last := by
      have h4 : m.ok = true := by simpa using h3
      constructor
      · by_cases h5 : m.ix < 0
        · exact absurd ⟨h4, .inl h5⟩ h2
        · omega
      · by_cases h5 : k.last < m.ix
        · exact absurd ⟨h4, .inr h5⟩ h2
        · omega
    have hs := hk.setPr (id := m.fr) (p := { k.heard m with mt := max (k.heard m).mt m.ix, nx := max (k.heard m).nx (max (k.heard m).mt m.ix + 1) }) ⟨by show 1 ≤ max _ _; omega, by show max _ _ ≤ _; omega⟩ ⟨by show 0 ≤ max _ _; omega, by show max _ _ ≤ _; omega⟩ hh.2.2
    have hc := hs.count
    have hn : (k.setPr m.fr { k.heard m with mt := max (k.heard m).mt m.ix, nx := max (k.heard m).nx (max (k.heard m).mt m.ix + 1) }).count.out.nd = k.out.nd := by rw [count_nd]; rfl
    dsimp only
    split
    · exact ⟨hc.send hid.1 hid.2.1, by have := send_nd (k.setPr m.fr { k.heard m with mt := max (k.heard m).mt m.ix, nx := max (k.heard m).nx (max (k.heard m).mt m.ix + 1) }).count m.fr; rw [hn] at this; exact this⟩
    · exact ⟨hc, by rw [hn]; omega⟩
theorem late_nd (s : RS) (m : Mg) : (s.late m).out.nd = s.out.nd := by
  unfold RS.late
  split
  · rfl
  split
  · rfl
  split <;> rfl
theorem voteReq_nd (s : RS) (m : Mg) : (s.voteReq m).out.nd = s.out.nd := by
  unfold RS.voteReq
  rw [say_nd]
  split <;> rfl
theorem follow_nd (s : RS) (m : Mg) : (s.follow m).out.nd = s.out.nd := by
  unfold RS.follow
  split <;> rfl
theorem follow_term (s : RS) (m : Mg) : (s.follow m).term = s.term := by
  unfold RS.follow
  split <;> rfl
theorem turn_nd (s : RS) (m : Mg) : (s.turn m).out.nd = s.out.nd := by
  unfold RS.turn
  split
  · unfold RS.down
    split <;> rfl
  · rfl
theorem turn_term (s : RS) (m : Mg) (h : s.term ≤ m.tm) : (s.turn m).term = m.tm := by
  unfold RS.turn RS.down
  split
  · rfl
  · show s.term = m.tm
    omega
theorem RB.step1 (B : RB M N s) (m : Mg) (n : Nat) (h0 : 1 ≤ n) (hn : m.en.length ≤ n) (hM : M + (n : Int) ≤ 4503599627370496) (hN : N + n ≤ 10000) (hda : ∀ e ∈ m.en, e.da.size ≤ 2000000) (htm : m.tm ≤ s.term) : RB (M + (n : Int)) (N + n) (s.step1 m) ∧ (s.step1 m).out.nd.length ≤ s.out.nd.length + 9 := by
  have hB := B.mono (M' := M + (n : Int)) (N' := N + n) (by omega) hM (by omega) hN
  unfold RS.step1
  split
  · exact ⟨hB.voteReq m, by rw [voteReq_nd]; omega⟩
  split
  · have := B.voteRes m (by omega) (by omega)
    exact ⟨this.1.mono (by omega) hM (by omega) hN, this.2⟩
  split
  · split
    · exact ⟨hB, by omega⟩
    · exact ⟨(B.follow m).appReq m n hn hM hN hda (by rw [follow_term]; exact htm), by rw [appReq_nd, follow_nd]; omega⟩
  split
  · have := hB.appRes m
    exact ⟨this.1, by omega⟩
  split
  · exact ⟨hB.follow m, by rw [follow_nd]; omega⟩
  · exact ⟨hB, by omega⟩
theorem RB.step0 (B : RB M N s) (m : Mg) (n : Nat) (h0 : 1 ≤ n) (hn : m.en.length ≤ n) (hM : M + (n : Int) ≤ 4503599627370496) (hN : N + n ≤ 10000) (hda : ∀ e ∈ m.en, e.da.size ≤ 2000000) (htm : m.tm ≤ 1152921504606846976) : RB (M + (n : Int)) (N + n) (s.step0 m) ∧ (s.step0 m).out.nd.length ≤ s.out.nd.length + 9 := by
  unfold RS.step0
  split
  · exact ⟨(B.mono (by omega) hM (by omega) hN).late m, by rw [late_nd]; omega⟩
  · have := (B.turn htm).step1 m n h0 hn hM hN hda (by rw [turn_term s m (by omega)]; omega)
    rw [turn_nd] at this
    exact this
end
end RF
end Go.Proofs.YtaodldagmmephaaGreat

/- raft, plain: how far a quorum is. -/
namespace Go.Proofs.YtaodldagmmephaaGreat
open Go.RowKit Go.Maps
namespace CL
def geN (x : Int) (l : List Int) : Nat := (l.filter (fun v => decide (x ≤ v))).length
def gtN (x : Int) (l : List Int) : Nat := (l.filter (fun v => decide (x < v))).length
theorem geN_le {x y : Int} (h : x ≤ y) : ∀ l, geN y l ≤ geN x l
  | [] => Nat.le_refl _
  | v :: l => by
    have ih := geN_le h l
    unfold geN at ih ⊢
    by_cases h1 : y ≤ v
    · have h2 : x ≤ v := by omega
      simp [h1, h2]; omega
    · by_cases h2 : x ≤ v
      · simp [h1, h2]; omega
      · simp [h1, h2]; omega
theorem geN_gtN {x y : Int} (h : x < y) : ∀ l, geN y l ≤ gtN x l
  | [] => Nat.le_refl _
  | v :: l => by
    have ih := geN_gtN h l
    unfold geN gtN at ih ⊢
    by_cases h1 : y ≤ v
    · have h2 : x < v := by omega
      simp [h1, h2]; omega
    · by_cases h2 : x < v
      · simp [h1, h2]; omega
      · simp [h1, h2]; omega
theorem reached_parts {zs ids ats : List Int} (hv : Valid zs) : quo zs.length ≤ geN (reached zs ids ats) (zs.map (val ids ats)) ∧ gtN (reached zs ids ats) (zs.map (val ids ats)) < quo zs.length := by
  have hn := nrm_of_up hv.up
  have h1 := hv.1
  have hq : 1 ≤ quo zs.length := by unfold quo; rw [if_neg (by omega)]; omega
  have hq2 := quo_le zs.length
  have hx : (srt (zs.map (val ids ats)))[(zs.map (val ids ats)).length - quo zs.length]? = some (reached zs ids ats) := by
    unfold reached
    rw [hn, if_neg (by omega), List.length_map]
    exact HL.el_eq _ _ (by rw [srt_length, List.length_map]; omega)
  exact ⟨stat_ge (by rw [List.length_map]; exact hq2) hx, stat_gt hq (by rw [List.length_map]; exact hq2) hx⟩
theorem le_reached {zs ids ats : List Int} (hv : Valid zs) (x : Int) : x ≤ reached zs ids ats ↔ quo zs.length ≤ geN x (zs.map (val ids ats)) := by
  obtain ⟨h1, h2⟩ := reached_parts (ids := ids) (ats := ats) hv
  constructor
  · intro h
    exact Nat.le_trans h1 (geN_le h _)
  · intro h
    by_cases h3 : x ≤ reached zs ids ats
    · exact h3
    · have := geN_gtN (show reached zs ids ats < x by omega) (zs.map (val ids ats))
      omega
theorem val_head (y : Int) (ids : List Int) (a : Int) (ats : List Int) : val (y :: ids) (a :: ats) y = a := by
  have : (y :: ids).findIdx (· == y) = 0 := findIdx_first (by simp) rfl (fun j hj => absurd hj (Nat.not_lt_zero _))
  unfold val
  rw [this]
  simp [HL.el]
theorem val_tail {y z : Int} (ids : List Int) (a : Int) (ats : List Int) (h : z ≠ y) : val (y :: ids) (a :: ats) z = val ids ats z := by
  have : (y :: ids).findIdx (· == z) = ids.findIdx (· == z) + 1 := by
    rw [List.findIdx_cons]
    have : (y == z) = false := by simp [Ne.symm h]
    rw [this]
    rfl
  unfold val
  rw [this]
  simp only [List.length_cons, Nat.add_lt_add_iff_right]
  split
  · simp [HL.el]
  · rfl
theorem val_map (f : Int → Int) (z : Int) : ∀ (ids : List Int), z ∈ ids → val ids (ids.map f) z = f z
  | [], h => absurd h List.not_mem_nil
  | y :: ids, h => by
    rw [List.map_cons]
    by_cases e : z = y
    · subst e
      exact val_head _ _ _ _
    · rw [val_tail _ _ _ e]
      exact val_map f z ids (by simpa [e] using h)
theorem val_out (z : Int) (ids : List Int) (h : z ∉ ids) (ats : List Int) : val ids ats z = 0 := by
  unfold val
  rw [findIdx_none h]
  simp
end CL
namespace RF
section
variable {rb base : Nat} {s : RS} {h : Hd} {w : World} {M : Int} {N : Nat}
/-- What a member counts for. -/
def RS.has (s : RS) (own : Int) (of : Pr → Int) (z : Int) : Int := if z = s.id then own else of ((s.knowAll s.others).pr z)
theorem far_le (hv : CL.Valid s.all) (own : Int) (of : Pr → Int) (x : Int) : x ≤ s.far own of ↔ CL.quo s.all.length ≤ (s.all.filter fun z => decide (x ≤ s.has own of z)).length := by
  unfold RS.far
  rw [CL.le_reached hv x]
  unfold CL.geN
  have e : s.all.map (CL.val (s.id :: s.others) (own :: s.others.map fun i => of ((s.knowAll s.others).pr i))) = s.all.map (s.has own of) := by
    refine List.map_congr_left (fun z hz => ?_)
    unfold RS.has
    by_cases h1 : z = s.id
    · rw [if_pos h1, h1]
      exact CL.val_head _ _ _ _
    · rw [if_neg h1, CL.val_tail _ _ _ h1]
      refine CL.val_map _ z s.others ?_
      unfold RS.others
      exact List.mem_filter.2 ⟨hz, by simp [h1]⟩
  rw [e, List.filter_map, List.length_map]
  rfl
/-- All the others are known. -/
def RS.knows (s : RS) : Prop := ∀ i ∈ s.others, ∃ p, pget s.ps i = some p
theorem know_id {i : Int} {p : Pr} (h : pget s.ps i = some p) : s.know i = s := by unfold RS.know; rw [h]
theorem knowAll_id : ∀ (L : List Int), (∀ i ∈ L, ∃ p, pget s.ps i = some p) → s.knowAll L = s
  | [], _ => rfl
  | y :: L, h => by
    obtain ⟨p, hp⟩ := h y List.mem_cons_self
    show (s.know y).knowAll L = s
    rw [know_id hp]
    exact knowAll_id L (fun i hi => h i (List.mem_cons_of_mem _ hi))
theorem RS.knows.all (h : s.knows) : s.knowAll s.others = s := knowAll_id _ h
end
end RF
end Go.Proofs.YtaodldagmmephaaGreat

