/- raft: Ask, Acked. -/
import Derived.Test.YtaodldagmmephaaGreatB5
import Derived.Test.YtaodldagmmephaaGreatB4
namespace Go.Proofs.YtaodldagmmephaaGreat
open Go.RowKit Go.Maps
namespace RF
/-- What Ask answers. -/
def AskAns (rb base : Nat) (s : RS) (h : Hd) (w : World) (e : Ending) (w' : World) : Prop :=
  ∃ v, e = .returned (.tuple #[.int .i64 (if s.askE = 0 then s.commit else 0), .int .i64 (if s.askE = 0 then min (s.round + 1) 4611686018427387904 else 0), v, .int .i64 s.askE]) ∧ Ans rb base (if s.askE = 0 then s.ask0 else s) h w (.returned v) w'
/-- Worlds in which a core's commit and round read so. -/
def AskW (rb : Nat) (c r : Int) : Type := { V : World // V.cell? ⟨rb, 5, none⟩ = some (.int .i64 c) ∧ V.cell? ⟨rb, 8, none⟩ = some (.int .i64 r) }
section
variable {rb base : Nat} {s : RS} {h : Hd} {w : World} {M : Int} {N : Nat}
theorem AskAns.no {c : Int} {v : Value} {w' : World} (hn : s.askE = c) (hc : c ≠ 0) (hA : Ans rb base s h w (.returned v) w') : AskAns rb base s h w (.returned (.tuple #[.int .i64 0, .int .i64 0, v, .int .i64 c])) w' := by
  have h1 : ¬ s.askE = 0 := by rw [hn]; exact hc
  exact ⟨v, by rw [if_neg h1, if_neg h1, hn], by rw [if_neg h1]; exact hA⟩
theorem AskAns.yes {v : Value} {w' : World} (hn : s.askE = 0) (hA : Ans rb base s.ask0 h w (.returned v) w') : AskAns rb base s h w (.returned (.tuple #[.int .i64 s.commit, .int .i64 (min (s.round + 1) 4611686018427387904), v, .int .i64 0])) w' :=
  ⟨v, by rw [if_pos hn, if_pos hn, hn], by rw [if_pos hn]; exact hA⟩
theorem RB.round1 (B : RB M N s) : RB M N { s with round := min (s.round + 1) 4611686018427387904 } :=
  ⟨B.id, B.log, B.top, B.big, B.few, B.low, B.da, B.snap, B.ps, B.nd, B.term, by have := B.round; exact ⟨by show (0 : Int) ≤ min (s.round + 1) _; omega, by show min (s.round + 1) (4611686018427387904 : Int) ≤ _; omega⟩, B.commit, B.ltm⟩
theorem RB.ask0 (B : RB M N s) : RB M N s.ask0 := B.round1.sendAll
theorem box4 {b : Nat} {W : World} {v0 v1 v2 v3 : Value} {p : Addr} (hlt : p.block < W.heap.size) (hp : p.block ≠ b) : ((((W.setCell ⟨b, 0, none⟩ v0).setCell ⟨b, 1, none⟩ v1).setCell ⟨b, 2, none⟩ v2).setCell ⟨b, 3, none⟩ v3).cell? p = W.cell? p :=
  Fr.cell (S := fun k => k = b) (((((Fr.refl (fun k => k = b) W).setCell (p := ⟨b, 0, none⟩) (fun _ => rfl) v0).setCell (p := ⟨b, 1, none⟩) (fun _ => rfl) v1).setCell (p := ⟨b, 2, none⟩) (fun _ => rfl) v2).setCell (p := ⟨b, 3, none⟩) (fun _ => rfl) v3) hlt hp
set_option maxHeartbeats 2000000 in
set_option maxRecDepth 100000 in
theorem rf_ask (H : Rf rb base s h w) (B : RB M N s) (hcl : h.clean) (hout : s.out = ot0) :
    Calls Tryz.prog 32 #[.pointer (some ⟨rb, 0, none⟩)] w (AskAns rb base s h w) := by
  have HB1 : Hid (Below w.heap.size w (w.alloc (.cells #[.slice none 0 0, .bool false, .int .i64 0, .slice none 0 0] 37))) := Lib.hid ((Below.refl _ w).alloc (Nat.le_refl _) _)
  have HSZ : Hid ((w.alloc (.cells #[.slice none 0 0, .bool false, .int .i64 0, .slice none 0 0] 37)).heap.size = w.heap.size + 1) := Lib.hid (World.size_alloc _ _)
  have HX1 := Lib.hid (CBox.fresh w [.slice none 0 0, .bool false, .int .i64 0, .slice none 0 0] 37)
  have HH := Lib.hid H
  have hrl := H.rlt
  have HR1 := Lib.hid (H.below HB1.out)
  have HBB := Lib.hid B
  have HCL := Lib.hid hcl
  have HOU := Lib.hid hout
  have HMH : Hid (h.mh.length = 0) := Lib.hid (by rw [hcl.2.1]; rfl)
  have HND : Hid (s.out.nd.length = 0) := Lib.hid (by rw [hout]; rfl)
  have HP0 : Hid (s.askE = if s.role ≠ 2 then 21 else if s.sure = false then 22 else 0) := Lib.hid rfl
  have hrd := B.round
  clear H B hcl hout
  go_enter Tryz.func32, Tryz.ntmps32
  go_upto_region 1 with fail
  dsimp only [List.toArray] at HX1
  generalize w.alloc (.cells #[.slice none 0 0, .bool false, .int .i64 0, .slice none 0 0] 37) = W1 at *
  have HNO := Lib.hid (rf_none HR1.out)
  go_upto_region 3 with (with_reducible refine HNO.out.mono ?_; rintro e Wb ⟨rfl, hWb⟩; have hWb := hWb.symm; subst hWb)
  have c1 : W1.cell? ⟨rb, 1, none⟩ = some (.int .i64 s.role) := HR1.out.cell 1 rfl
  by_cases hrole : s.role = 2
  case neg =>
    have d1 : (s.role != 2) = true := by simp [hrole]
    have HE : Hid (s.askE = 21) := Lib.hid (by rw [HP0.out, if_pos hrole])
    clear hrole
    have t0 := HX1.out.1 0 _ rfl
    have t1 := HX1.out.1 1 _ rfl
    have t2 := HX1.out.1 2 _ rfl
    have t3 := HX1.out.1 3 _ rfl
    have u0 := HX1.out.2.1 0 (by show 0 < 4; omega)
    have u1 := HX1.out.2.1 1 (by show 1 < 4; omega)
    have u2 := HX1.out.2.1 2 (by show 2 < 4; omega)
    have u3 := HX1.out.2.1 3 (by show 3 < 4; omega)
    go_wp2_with fail
    refine bodyPost_ret (results_ttct rfl _ _ _ ⟨w.heap.size, 0, none⟩ (.agg #[.slice none 0 0, .bool false, .int .i64 0, .slice none 0 0]) rfl (by go_simp)) rfl ?_
    refine AskAns.no (v := outZ) HE.out (by omega) ?_
    exact Ans.still HH.out HCL.out HOU.out ((((HB1.out.setCell (p := ⟨w.heap.size, 0, none⟩) (Nat.le_refl _) _).setCell (p := ⟨w.heap.size, 1, none⟩) (Nat.le_refl _) _).setCell (p := ⟨w.heap.size, 2, none⟩) (Nat.le_refl _) _).setCell (p := ⟨w.heap.size, 3, none⟩) (Nat.le_refl _) _)
  case pos =>
  have d1 : (s.role != 2) = false := by simp [hrole]
  have HP1 : Hid (s.askE = if s.sure = false then 22 else 0) := Lib.hid (by rw [HP0.out, if_neg (fun h => h hrole)])
  have HSU := Lib.hid (rf_sure HR1.out (by have h1 := HBB.out.commit; have h2 := HBB.out.big; omega))
  clear hrole HP0
  cases hsu : s.sure with
  | false =>
    rw [hsu] at HSU
    have HE : Hid (s.askE = 22) := Lib.hid (by rw [HP1.out, if_pos hsu])
    clear hsu
    go_wp2_with fail
    with_reducible refine (HSU.out).mono ?_
    rintro e W2 ⟨rfl, hb2⟩
    have HB2 := Lib.hid (HB1.out.trans (hb2.mono HB1.out.size))
    have HX2 := Lib.hid (HX1.out.below hb2)
    clear hb2 c1
    have t0 := HX2.out.1 0 _ rfl
    have t1 := HX2.out.1 1 _ rfl
    have t2 := HX2.out.1 2 _ rfl
    have t3 := HX2.out.1 3 _ rfl
    have u0 := HX2.out.2.1 0 (by show 0 < 4; omega)
    have u1 := HX2.out.2.1 1 (by show 1 < 4; omega)
    have u2 := HX2.out.2.1 2 (by show 2 < 4; omega)
    have u3 := HX2.out.2.1 3 (by show 3 < 4; omega)
    go_wp2_with fail
    refine bodyPost_ret (results_ttct rfl _ _ _ ⟨w.heap.size, 0, none⟩ (.agg #[.slice none 0 0, .bool false, .int .i64 0, .slice none 0 0]) rfl (by go_simp)) rfl ?_
    refine AskAns.no (v := outZ) HE.out (by omega) ?_
    exact Ans.still HH.out HCL.out HOU.out ((((HB2.out.setCell (p := ⟨w.heap.size, 0, none⟩) (Nat.le_refl _) _).setCell (p := ⟨w.heap.size, 1, none⟩) (Nat.le_refl _) _).setCell (p := ⟨w.heap.size, 2, none⟩) (Nat.le_refl _) _).setCell (p := ⟨w.heap.size, 3, none⟩) (Nat.le_refl _) _)
  | true =>
  rw [hsu] at HSU
  have HE : Hid (s.askE = 0) := Lib.hid (by rw [HP1.out, if_neg (fun h => by rw [hsu] at h; cases h)])
  clear hsu HP1
  go_wp2_with fail
  with_reducible refine (HSU.out).mono ?_
  rintro e W2 ⟨rfl, hb2⟩
  have HB2 := Lib.hid hb2
  have HR2 := Lib.hid (HR1.out.below hb2)
  clear hb2 c1 HSU
  have c8 : W2.cell? ⟨rb, 8, none⟩ = some (.int .i64 s.round) := HR2.out.cell 8 rfl
  have f8 := HR2.out.fz 8 (by omega)
  have hwr : IntKind.i64.wrap (s.round + 1) = s.round + 1 := IntWalk.i64_in _ (by omega)
  have hr3 := HR2.out.put { s with round := min (s.round + 1) 4611686018427387904 } 8 (.int .i64 (min (s.round + 1) 4611686018427387904)) (by omega) rfl (same_refl s)
  have HP3 : Hid (PS rb h h W1 (W2.setCell ⟨rb, 8, none⟩ (.int .i64 (min (s.round + 1) 4611686018427387904)))) := Lib.hid ((PS.still HB2.out).trans (PS.core (fr_core _ _ _ _)))
  have HR3 := Lib.hid hr3
  clear hr3
  go_upto_region 8 with fail
  generalize W2.setCell ⟨rb, 8, none⟩ (.int .i64 (min (s.round + 1) 4611686018427387904)) = W3 at *
  clear c8 f8
  have HSA := Lib.hid (rf_sendAll HR3.out HBB.out.round1 (by rw [HMH.out]; omega) (by show s.out.nd.length ≤ _; rw [HND.out]; omega))
  have HSN : Hid (s.ask0.out.nd.length ≤ 9) := Lib.hid (by have h := sendAll_nd HBB.out.round1; have h2 := HND.out; unfold RS.ask0; have h3 : ({ s with round := min (s.round + 1) 4611686018427387904 } : RS).out.nd.length = 0 := h2; omega)
  have HCC : Hid (s.ask0.commit = s.commit ∧ s.ask0.round = min (s.round + 1) 4611686018427387904) := Lib.hid (by
    have hf : ∀ (L : List Int) (z : RS), (L.foldl RS.send z).commit = z.commit ∧ (L.foldl RS.send z).round = z.round := by
      intro L
      induction L with
      | nil => exact fun _ => ⟨rfl, rfl⟩
      | cons y L ih =>
        intro z
        have h1 : (z.send y).commit = z.commit ∧ (z.send y).round = z.round := by
          have h2 : (z.know y).commit = z.commit ∧ (z.know y).round = z.round := by unfold RS.know; split <;> exact ⟨rfl, rfl⟩
          unfold RS.send RS.send1
          split
          · exact h2
          · exact h2
        exact ⟨(ih (z.send y)).1.trans h1.1, (ih (z.send y)).2.trans h1.2⟩
    exact hf _ _)
  have HA0 : Hid (({ s with round := min (s.round + 1) 4611686018427387904 } : RS).sendAll = s.ask0) := Lib.hid rfl
  generalize hrn : min (s.round + 1) 4611686018427387904 = rn at *
  have HRN := Lib.hid hrn
  clear hrn hwr hrd
  go_wp2_with fail
  with_reducible refine (HSA.out).mono ?_
  rintro e W4 ⟨rfl, h4, hr4, hp4, _⟩
  rw [HA0.out] at hr4
  have HR4 := Lib.hid hr4
  have HP4 := Lib.hid (HP3.out.trans hp4)
  clear hr4 hp4 HSA HP3 HR3 HA0
  generalize hz : s.ask0 = z at *
  have HZ := Lib.hid hz
  clear hz
  have HTL := Lib.hid (rf_tell (HR4.out.below (Below.refl _ _).drew) (HP4.out.trans (PS.still (Below.refl _ _).drew)) HCL.out (by have := HSN.out; omega))
  have q5 : ∀ q : AskW rb s.commit rn, q.1.cell? ⟨rb, 5, none⟩ = some (.int .i64 s.commit) := fun q => q.2.1
  have q8 : ∀ q : AskW rb s.commit rn, q.1.cell? ⟨rb, 8, none⟩ = some (.int .i64 rn) := fun q => q.2.2
  have HCE : Hid (∀ W h', Rf rb base z.fin h' W → W.cell? ⟨rb, 5, none⟩ = some (.int .i64 s.commit) ∧ W.cell? ⟨rb, 8, none⟩ = some (.int .i64 rn)) := Lib.hid (fun W h' hW => ⟨by rw [← HCC.out.1]; exact hW.cell 5 rfl, by rw [← HCC.out.2]; exact hW.cell 8 rfl⟩)
  have HC4 : Hid (W4.drew.cell? ⟨rb, 5, none⟩ = some (.int .i64 s.commit) ∧ W4.drew.cell? ⟨rb, 8, none⟩ = some (.int .i64 rn)) := Lib.hid ⟨by rw [← HCC.out.1]; exact (HR4.out.below (Below.refl _ _).drew).cell 5 rfl, by rw [← HCC.out.2]; exact (HR4.out.below (Below.refl _ _).drew).cell 8 rfl⟩
  go_wp2_with fail
  haveI : Nonempty (AskW rb s.commit rn) := ⟨⟨_, HC4.out⟩⟩
  refine Mix.region_mix (n := 13) (m := 5) (fun V => ∃ q : AskW rb s.commit rn, V = q.1) [0, 1, 2, 3, 4, 5, 6, 7, 8] (by kernel_rfl) rfl rfl (by kernel_rfl) (by kernel_rfl) ⟨⟨_, HC4.out⟩, rfl⟩ ?_
  repeat (refine Mix.picks_step rfl ?_; go_big_quiet_step (fail))
  refine Mix.picks_nil ?_
  intro inv
  refine sink_one (i := 9) (by kernel_rfl) rfl (by omega) inv (fun K hK => ?_)
  have HKK := Lib.hid hK
  clear hK
  go_simp
  with_reducible refine (HTL.out).mono ?_
  intro e W5 hA
  have HA := Lib.hid hA
  obtain ⟨p1, n1, k1, p2, n2, k2, rfl⟩ := hA.form
  obtain ⟨_, h5, _, _, hr5, hp5, _⟩ := hA
  have HC5 := Lib.hid (HCE.out _ _ hr5)
  have hx5 := HX1.out.keep hp5.1 (fun e => by have := (HH.out.lt e).2; omega)
  have hrw : rb < W5.heap.size := hr5.rlt
  have hne : rb ≠ w.heap.size := by omega
  have t0 := hx5.1 0 _ rfl
  have t1 := hx5.1 1 _ rfl
  have t2 := hx5.1 2 _ rfl
  have t3 := hx5.1 3 _ rfl
  have u0 := hx5.2.1 0 (by show 0 < 4; omega)
  have u1 := hx5.2.1 1 (by show 1 < 4; omega)
  have u2 := hx5.2.1 2 (by show 2 < 4; omega)
  have u3 := hx5.2.1 3 (by show 3 < 4; omega)
  clear hr5 hp5 hx5 HTL
  refine HKK.out _ _ ⟨⟨_, HC5.out⟩, rfl⟩ ?_
  clear HKK inv
  intro hS inv
  (try simp only [Act.put]); (try simp only [List.setIfInBounds_toArray]); (try simp only [List.set_cons_succ]); (try simp only [List.set_cons_zero])
  refine Mix.more2 [10, 11] (m := 2) rfl (by kernel_rfl) (by kernel_rfl) inv ⟨⟨_, HC5.out⟩, rfl⟩ (Mix.picks_cons rfl (Mix.picks_cons rfl Mix.picks_end)) ?_
  repeat (go_big_quiet_step (fail))
  refine wpQuiet_nil ?_
  clear inv
  intro inv
  refine sink_one (i := 12) (by kernel_rfl) rfl (by omega) inv (fun K hK => ?_)
  have HKK := Lib.hid hK
  clear hK
  go_simp
  refine HKK.out _ _ ⟨⟨_, ⟨(box4 hrw hne).trans HC5.out.1, (box4 hrw hne).trans HC5.out.2⟩⟩, rfl⟩ ?_
  clear HKK inv
  intro hS inv
  (try simp only [Act.put]); (try simp only [List.setIfInBounds_toArray]); (try simp only [List.set_cons_succ]); (try simp only [List.set_cons_zero])
  refine sink_last (by kernel_rfl) rfl (by kernel_rfl) (fun K hK => ?_)
  have HKK := Lib.hid hK
  clear hK
  go_simp
  refine HKK.out _ _ ⟨rfl, ?_⟩
  clear HKK inv hS
  simp only [Exit.then]
  go_at_K
  go_wp2_with fail
  refine bodyPost_ret (results_ttct rfl _ _ _ ⟨w.heap.size, 0, none⟩ (.agg #[.slice p1 n1 k1, .bool z.out.hd, .int .i64 z.out.fr, .slice p2 n2 k2]) rfl (by go_simp)) rfl ?_
  rw [← HRN.out]
  refine AskAns.yes HE.out ?_
  rw [HZ.out]
  exact Ans.boxed HH.out HA.out HB1.out HSZ.out ((((Fr.refl (fun k => k = w.heap.size) W5).setCell (p := ⟨w.heap.size, 0, none⟩) (fun _ => rfl) _).setCell (p := ⟨w.heap.size, 1, none⟩) (fun _ => rfl) _).setCell (p := ⟨w.heap.size, 2, none⟩) (fun _ => rfl) _ |>.setCell (p := ⟨w.heap.size, 3, none⟩) (fun _ => rfl) _)
set_option maxHeartbeats 2000000 in
set_option maxRecDepth 100000 in
theorem rf_acked (H : Rf rb base s h w) (B : RB M N s) (hrole : s.role = 2) :
    Calls Tryz.prog 33 #[.pointer (some ⟨rb, 0, none⟩)] w fun e w' => e = .returned (.int .i64 s.ackedV) ∧ ∃ h', Rf rb base s.acked h' w' ∧ PS rb h h' w w' ∧ Hd.Ext h h' := by
  have HNO := Lib.hid (rf_none H)
  have HAT := Lib.hid (rf_at_rd s.round H B)
  have c1 : w.cell? ⟨rb, 1, none⟩ = some (.int .i64 s.role) := H.cell 1 rfl
  have c8 : w.cell? ⟨rb, 8, none⟩ = some (.int .i64 s.round) := H.cell 8 rfl
  rw [hrole] at c1
  unfold RS.ackedV RS.acked
  generalize s.far s.round Pr.rd = fv at *
  generalize s.knowAll s.others = ka at *
  clear H B hrole
  go_enter Tryz.func33, Tryz.ntmps33
  go_upto_region 3 with (with_reducible refine HNO.out.mono ?_; rintro e Wb ⟨rfl, hWb⟩; have hWb := hWb.symm; subst hWb)
  go_wp2_with fail
  with_reducible refine (HAT.out).mono ?_
  rintro e W2 ⟨rfl, h2, hr2, hp2, hx2⟩
  have HF := Lib.hid (And.intro hr2 (And.intro hp2 hx2))
  clear hr2 hp2 hx2 HAT
  go_wp2_with fail
  go_ret
  exact ⟨rfl, h2, HF.out⟩
end
end RF
end Go.Proofs.YtaodldagmmephaaGreat
