/- Merged texts: Rg7 Rt1 Rt2 Rt3. -/
import Derived.Test.YtaodldagmmephaaGreatB5
import Derived.Test.YtaodldagmmephaaGreatB4
import Derived.Test.YtaodldagmmephaaGreatB6
import Derived.Test.YtaodldagmmephaaGreatB3
/- raft: Ask, Acked. -/
namespace Go.Proofs.YtaodldagmmephaaGreat
open Go.RowKit Go.Maps
namespace RF
/-- What Ask answers. -/
def AskAns (rb base : Nat) (s : RS) (h : Hd) (w : World) (e : Ending) (w' : World) : Prop :=
  ∃ v, e = .returned (.tuple #[.int .i64 (if s.askE = 0 then s.commit else 0), .int .i64 (if s.askE = 0 then min (s.round + 1) 4611686018427387904 else 0), v, .int .i64 s.askE]) ∧ Ans rb base (if s.askE = 0 then s.ask0 else s) h w (.returned v) w'
/-- Worlds in which a core's commit and round read so. -/
def AskW (rb : Nat) (c r : Int) : Type := { V : World // V.cell? ⟨rb, 5, none⟩ = some (.int .i64 c) ∧ V.cell? ⟨rb, 8, none⟩ = some (.int .i64 r) }
section
variable {rb base : Nat} {s : RS} {h : Hd} {w : World} {M : Int} {N : Nat}
theorem AskAns.no {c : Int} {v : Value} {w' : World} (hn : s.askE = c) (hc : c ≠ 0) (hA : Ans rb base s h w (.returned v) w') : AskAns rb base s h w (.returned (.tuple #[.int .i64 0, .int .i64 0, v, .int .i64 c])) w' := by
  have h1 : ¬ s.askE = 0 := by rw [hn]; exact hc
  exact ⟨v, by rw [if_neg h1, if_neg h1, hn], by rw [if_neg h1]; exact hA⟩
theorem AskAns.yes {v : Value} {w' : World} (hn : s.askE = 0) (hA : Ans rb base s.ask0 h w (.returned v) w') : AskAns rb base s h w (.returned (.tuple #[.int .i64 s.commit, .int .i64 (min (s.round + 1) 4611686018427387904), v, .int .i64 0])) w' :=
  ⟨v, by rw [if_pos hn, if_pos hn, hn], by rw [if_pos hn]; exact hA⟩
theorem RB.round1 (B : RB M N s) : RB M N { s with round := min (s.round + 1) 4611686018427387904 } :=
  ⟨B.id, B.log, B.top, B.big, B.few, B.low, B.da, B.snap, B.ps, B.nd, B.term, by have := B.round; exact ⟨by show (0 : Int) ≤ min (s.round + 1) _; omega, by show min (s.round + 1) (4611686018427387904 : Int) ≤ _; omega⟩, B.commit, B.ltm⟩
theorem RB.ask0 (B : RB M N s) : RB M N s.ask0 := B.round1.sendAll
theorem box4 {b : Nat} {W : World} {v0 v1 v2 v3 : Value} {p : Addr} (hlt : p.block < W.heap.size) (hp : p.block ≠ b) : ((((W.setCell ⟨b, 0, none⟩ v0).setCell ⟨b, 1, none⟩ v1).setCell ⟨b, 2, none⟩ v2).setCell ⟨b, 3, none⟩ v3).cell? p = W.cell? p :=
  Fr.cell (S := fun k => k = b) (((((Fr.refl (fun k => k = b) W).setCell (p := ⟨b, 0, none⟩) (fun _ => rfl) v0).setCell (p := ⟨b, 1, none⟩) (fun _ => rfl) v1).setCell (p := ⟨b, 2, none⟩) (fun _ => rfl) v2).setCell (p := ⟨b, 3, none⟩) (fun _ => rfl) v3) hlt hp
set_option maxHeartbeats 2000000 in
set_option maxRecDepth 100000 in
theorem rf_ask (H : Rf rb base s h w) (B : RB M N s) (hcl : h.clean) (hout : s.out = ot0) :
    Calls Tryz.prog 32 #[.pointer (some ⟨rb, 0, none⟩)] w (AskAns rb base s h w) := by
  have HB1 : Hid (Below w.heap.size w (w.alloc (.cells #[.slice none 0 0, .bool false, .int .i64 0, .slice none 0 0] 37))) := Lib.hid ((Below.refl _ w).alloc (Nat.le_refl _) _)
  have HSZ : Hid ((w.alloc (.cells #[.slice none 0 0, .bool false, .int .i64 0, .slice none 0 0] 37)).heap.size = w.heap.size + 1) := Lib.hid (World.size_alloc _ _)
  have HX1 := Lib.hid (CBox.fresh w [.slice none 0 0, .bool false, .int .i64 0, .slice none 0 0] 37)
  have HH := Lib.hid H
  have hrl := H.rlt
  have HR1 := Lib.hid (H.below HB1.out)
  have HBB := Lib.hid B
  have HCL := Lib.hid hcl
  have HOU := Lib.hid hout
  have HMH : Hid (h.mh.length = 0) := Lib.hid (by rw [hcl.2.1]; rfl)
  have HND : Hid (s.out.nd.length = 0) := Lib.hid (by rw [hout]; rfl)
  have HP0 : Hid (s.askE = if s.role ≠ 2 then 21 else if s.sure = false then 22 else 0) := Lib.hid rfl
  have hrd := B.round
  clear H B hcl hout
  go_enter Tryz.func32, Tryz.ntmps32
  go_upto_region 1 with fail
  dsimp only [List.toArray] at HX1
  generalize w.alloc (.cells #[.slice none 0 0, .bool false, .int .i64 0, .slice none 0 0] 37) = W1 at *
  have HNO := Lib.hid (rf_none HR1.out)
  go_upto_region 3 with (with_reducible refine HNO.out.mono ?_; rintro e Wb ⟨rfl, hWb⟩; have hWb := hWb.symm; subst hWb)
  have c1 : W1.cell? ⟨rb, 1, none⟩ = some (.int .i64 s.role) := HR1.out.cell 1 rfl
  by_cases hrole : s.role = 2
  case neg =>
    have d1 : (s.role != 2) = true := by simp [hrole]
    have HE : Hid (s.askE = 21) := Lib.hid (by rw [HP0.out, if_pos hrole])
    clear hrole
    have t0 := HX1.out.1 0 _ rfl
    have t1 := HX1.out.1 1 _ rfl
    have t2 := HX1.out.1 2 _ rfl
    have t3 := HX1.out.1 3 _ rfl
    have u0 := HX1.out.2.1 0 (by show 0 < 4; omega)
    have u1 := HX1.out.2.1 1 (by show 1 < 4; omega)
    have u2 := HX1.out.2.1 2 (by show 2 < 4; omega)
    have u3 := HX1.out.2.1 3 (by show 3 < 4; omega)
    go_wp2_with fail
    refine bodyPost_ret (results_ttct rfl _ _ _ ⟨w.heap.size, 0, none⟩ (.agg #[.slice none 0 0, .bool false, .int .i64 0, .slice none 0 0]) rfl (by go_simp)) rfl ?_
    refine AskAns.no (v := outZ) HE.out (by omega) ?_
    exact Ans.still HH.out HCL.out HOU.out ((((HB1.out.setCell (p := ⟨w.heap.size, 0, none⟩) (Nat.le_refl _) _).setCell (p := ⟨w.heap.size, 1, none⟩) (Nat.le_refl _) _).setCell (p := ⟨w.heap.size, 2, none⟩) (Nat.le_refl _) _).setCell (p := ⟨w.heap.size, 3, none⟩) (Nat.le_refl _) _)
  case pos =>
  have d1 : (s.role != 2) = false := by simp [hrole]
  have HP1 : Hid (s.askE = if s.sure = false then 22 else 0) := Lib.hid (by rw [HP0.out, if_neg (fun h => h hrole)])
  have HSU := Lib.hid (rf_sure HR1.out (by have h1 := HBB.out.commit; have h2 := HBB.out.big; omega))
  clear hrole HP0
  cases hsu : s.sure with
  | false =>
    rw [hsu] at HSU
    have HE : Hid (s.askE = 22) := Lib.hid (by rw [HP1.out, if_pos hsu])
    clear hsu
    go_wp2_with fail
    with_reducible refine (HSU.out).mono ?_
    rintro e W2 ⟨rfl, hb2⟩
    have HB2 := Lib.hid (HB1.out.trans (hb2.mono HB1.out.size))
    have HX2 := Lib.hid (HX1.out.below hb2)
    clear hb2 c1
    have t0 := HX2.out.1 0 _ rfl
    have t1 := HX2.out.1 1 _ rfl
    have t2 := HX2.out.1 2 _ rfl
    have t3 := HX2.out.1 3 _ rfl
    have u0 := HX2.out.2.1 0 (by show 0 < 4; omega)
    have u1 := HX2.out.2.1 1 (by show 1 < 4; omega)
    have u2 := HX2.out.2.1 2 (by show 2 < 4; omega)
    have u3 := HX2.out.2.1 3 (by show 3 < 4; omega)
    go_wp2_with fail
    refine bodyPost_ret (results_ttct rfl _ _ _ ⟨w.heap.size, 0, none⟩ (.agg #[.slice none 0 0, .bool false, .int .i64 0, .slice none 0 0]) rfl (by go_simp)) rfl ?_
    refine AskAns.no (v := outZ) HE.out (by omega) ?_
    exact Ans.still HH.out HCL.out HOU.out ((((HB2.out.setCell (p := ⟨w.heap.size, 0, none⟩) (Nat.le_refl _) _).setCell (p := ⟨w.heap.size, 1, none⟩) (Nat.le_refl _) _).setCell (p := ⟨w.heap.size, 2, none⟩) (Nat.le_refl _) _).setCell (p := ⟨w.heap.size, 3, none⟩) (Nat.le_refl _) _)
  | true =>
  rw [hsu] at HSU
  have HE : Hid (s.askE = 0) := Lib.hid (by rw [HP1.out, if_neg (fun h => by rw [hsu] at h; cases h)])
  clear hsu HP1
  go_wp2_with fail
  with_reducible refine (HSU.out).mono ?_
  rintro e W2 ⟨rfl, hb2⟩
  have HB2 := Lib.hid hb2
  have HR2 := Lib.hid (HR1.out.below hb2)
  clear hb2 c1 HSU
  have c8 : W2.cell? ⟨rb, 8, none⟩ = some (.int .i64 s.round) := HR2.out.cell 8 rfl
  have f8 := HR2.out.fz 8 (by omega)
  have hwr : IntKind.i64.wrap (s.round + 1) = s.round + 1 := IntWalk.i64_in _ (by omega)
  have hr3 := HR2.out.put { s with round := min (s.round + 1) 4611686018427387904 } 8 (.int .i64 (min (s.round + 1) 4611686018427387904)) (by omega) rfl (same_refl s)
  have HP3 : Hid (PS rb h h W1 (W2.setCell ⟨rb, 8, none⟩ (.int .i64 (min (s.round + 1) 4611686018427387904)))) := Lib.hid ((PS.still HB2.out).trans (PS.core (fr_core _ _ _ _)))
  have HR3 := Lib.hid hr3
  clear hr3
  go_upto_region 8 with fail
  generalize W2.setCell ⟨rb, 8, none⟩ (.int .i64 (min (s.round + 1) 4611686018427387904)) = W3 at *
  clear c8 f8
  have HSA := Lib.hid (rf_sendAll HR3.out HBB.out.round1 (by rw [HMH.out]; omega) (by show s.out.nd.length ≤ _; rw [HND.out]; omega))
  have HSN : Hid (s.ask0.out.nd.length ≤ 9) := Lib.hid (by have h := sendAll_nd HBB.out.round1; have h2 := HND.out; unfold RS.ask0; have h3 : ({ s with round := min (s.round + 1) 4611686018427387904 } : RS).out.nd.length = 0 := h2; omega)
  have HCC : Hid (s.ask0.commit = s.commit ∧ s.ask0.round = min (s.round + 1) 4611686018427387904) := Lib.hid (by
    have hf : ∀ (L : List Int) (z : RS), (L.foldl RS.send z).commit = z.commit ∧ (L.foldl RS.send z).round = z.round := by
      intro L
      induction L with
      | nil => exact fun _ => ⟨rfl, rfl⟩
      | cons y L ih =>
        intro z
        have h1 : (z.send y).commit = z.commit ∧ (z.send y).round = z.round := by
          have h2 : (z.know y).commit = z.commit ∧ (z.know y).round = z.round := by unfold RS.know; split <;> exact ⟨rfl, rfl⟩
          unfold RS.send RS.send1
          split
          · exact h2
          · exact h2
        exact ⟨(ih (z.send y)).1.trans h1.1, (ih (z.send y)).2.trans h1.2⟩
    exact hf _ _)
  have HA0 : Hid (({ s with round := min (s.round + 1) 4611686018427387904 } : RS).sendAll = s.ask0) := Lib.hid rfl
  generalize hrn : min (s.round + 1) 4611686018427387904 = rn at *
  have HRN := Lib.hid hrn
  clear hrn hwr hrd
  go_wp2_with fail
  with_reducible refine (HSA.out).mono ?_
  rintro e W4 ⟨rfl, h4, hr4, hp4, _⟩
  rw [HA0.out] at hr4
  have HR4 := Lib.hid hr4
  have HP4 := Lib.hid (HP3.out.trans hp4)
  clear hr4 hp4 HSA HP3 HR3 HA0
  generalize hz : s.ask0 = z at *
  have HZ := Lib.hid hz
  clear hz
  have HTL := Lib.hid (rf_tell (HR4.out.below (Below.refl _ _).drew) (HP4.out.trans (PS.still (Below.refl _ _).drew)) HCL.out (by have := HSN.out; omega))
  have q5 : ∀ q : AskW rb s.commit rn, q.1.cell? ⟨rb, 5, none⟩ = some (.int .i64 s.commit) := fun q => q.2.1
  have q8 : ∀ q : AskW rb s.commit rn, q.1.cell? ⟨rb, 8, none⟩ = some (.int .i64 rn) := fun q => q.2.2
  have HCE : Hid (∀ W h', Rf rb base z.fin h' W → W.cell? ⟨rb, 5, none⟩ = some (.int .i64 s.commit) ∧ W.cell? ⟨rb, 8, none⟩ = some (.int .i64 rn)) := Lib.hid (fun W h' hW => ⟨by rw [← HCC.out.1]; exact hW.cell 5 rfl, by rw [← HCC.out.2]; exact hW.cell 8 rfl⟩)
  have HC4 : Hid (W4.drew.cell? ⟨rb, 5, none⟩ = some (.int .i64 s.commit) ∧ W4.drew.cell? ⟨rb, 8, none⟩ = some (.int .i64 rn)) := Lib.hid ⟨by rw [← HCC.out.1]; exact (HR4.out.below (Below.refl _ _).drew).cell 5 rfl, by rw [← HCC.out.2]; exact (HR4.out.below (Below.refl _ _).drew).cell 8 rfl⟩
  go_wp2_with fail
  haveI : Nonempty (AskW rb s.commit rn) := ⟨⟨_, HC4.out⟩⟩
  refine Mix.region_mix (n := 13) (m := 5) (fun V => ∃ q : AskW rb s.commit rn, V = q.1) [0, 1, 2, 3, 4, 5, 6, 7, 8] (by kernel_rfl) rfl rfl (by kernel_rfl) (by kernel_rfl) ⟨⟨_, HC4.out⟩, rfl⟩ ?_
  repeat (refine Mix.picks_step rfl ?_; go_big_quiet_step (fail))
  refine Mix.picks_nil ?_
  intro inv
  refine sink_one (i := 9) (by kernel_rfl) rfl (by omega) inv (fun K hK => ?_)
  have HKK := Lib.hid hK
  clear hK
  go_simp
  with_reducible refine (HTL.out).mono ?_
  intro e W5 hA
  have HA := Lib.hid hA
  obtain ⟨p1, n1, k1, p2, n2, k2, rfl⟩ := hA.form
  obtain ⟨_, h5, _, _, hr5, hp5, _⟩ := hA
  have HC5 := Lib.hid (HCE.out _ _ hr5)
  have hx5 := HX1.out.keep hp5.1 (fun e => by have := (HH.out.lt e).2; omega)
  have hrw : rb < W5.heap.size := hr5.rlt
  have hne : rb ≠ w.heap.size := by omega
  have t0 := hx5.1 0 _ rfl
  have t1 := hx5.1 1 _ rfl
  have t2 := hx5.1 2 _ rfl
  have t3 := hx5.1 3 _ rfl
  have u0 := hx5.2.1 0 (by show 0 < 4; omega)
  have u1 := hx5.2.1 1 (by show 1 < 4; omega)
  have u2 := hx5.2.1 2 (by show 2 < 4; omega)
  have u3 := hx5.2.1 3 (by show 3 < 4; omega)
  clear hr5 hp5 hx5 HTL
  refine HKK.out _ _ ⟨⟨_, HC5.out⟩, rfl⟩ ?_
  clear HKK inv
  intro hS inv
  (try simp only [Act.put]); (try simp only [List.setIfInBounds_toArray]); (try simp only [List.set_cons_succ]); (try simp only [List.set_cons_zero])
  refine Mix.more2 [10, 11] (m := 2) rfl (by kernel_rfl) (by kernel_rfl) inv ⟨⟨_, HC5.out⟩, rfl⟩ (Mix.picks_cons rfl (Mix.picks_cons rfl Mix.picks_end)) ?_
  repeat (go_big_quiet_step (fail))
  refine wpQuiet_nil ?_
  clear inv
  intro inv
  refine sink_one (i := 12) (by kernel_rfl) rfl (by omega) inv (fun K hK => ?_)
  have HKK := Lib.hid hK
  clear hK
  go_simp
  refine HKK.out _ _ ⟨⟨_, ⟨(box4 hrw hne).trans HC5.out.1, (box4 hrw hne).trans HC5.out.2⟩⟩, rfl⟩ ?_
  clear HKK inv
  intro hS inv
  (try simp only [Act.put]); (try simp only [List.setIfInBounds_toArray]); (try simp only [List.set_cons_succ]); (try simp only [List.set_cons_zero])
  refine sink_last (by kernel_rfl) rfl (by kernel_rfl) (fun K hK => ?_)
  have HKK := Lib.hid hK
  clear hK
  go_simp
  refine HKK.out _ _ ⟨rfl, ?_⟩
  clear HKK inv hS
  simp only [Exit.then]
  go_at_K
  go_wp2_with fail
  refine bodyPost_ret (results_ttct rfl _ _ _ ⟨w.heap.size, 0, none⟩ (.agg #[.slice p1 n1 k1, .bool z.out.hd, .int .i64 z.out.fr, .slice p2 n2 k2]) rfl (by go_simp)) rfl ?_
  rw [← HRN.out]
  refine AskAns.yes HE.out ?_
  rw [HZ.out]
  exact Ans.boxed HH.out HA.out HB1.out HSZ.out ((((Fr.refl (fun k => k = w.heap.size) W5).setCell (p := ⟨w.heap.size, 0, none⟩) (fun _ => rfl) _).setCell (p := ⟨w.heap.size, 1, none⟩) (fun _ => rfl) _).setCell (p := ⟨w.heap.size, 2, none⟩) (fun _ => rfl) _ |>.setCell (p := ⟨w.heap.size, 3, none⟩) (fun _ => rfl) _)
set_option maxHeartbeats 2000000 in
set_option maxRecDepth 100000 in
theorem rf_acked (H : Rf rb base s h w) (B : RB M N s) (hrole : s.role = 2) :
    Calls Tryz.prog 33 #[.pointer (some ⟨rb, 0, none⟩)] w fun e w' => e = .returned (.int .i64 s.ackedV) ∧ ∃ h', Rf rb base s.acked h' w' ∧ PS rb h h' w w' ∧ Hd.Ext h h' := by
  have HNO := Lib.hid (rf_none H)
  have HAT := Lib.hid (rf_at_rd s.round H B)
  have c1 : w.cell? ⟨rb, 1, none⟩ = some (.int .i64 s.role) := H.cell 1 rfl
  have c8 : w.cell? ⟨rb, 8, none⟩ = some (.int .i64 s.round) := H.cell 8 rfl
  rw [hrole] at c1
  unfold RS.ackedV RS.acked
  generalize s.far s.round Pr.rd = fv at *
  generalize s.knowAll s.others = ka at *
  clear H B hrole
  go_enter Tryz.func33, Tryz.ntmps33
  go_upto_region 3 with (with_reducible refine HNO.out.mono ?_; rintro e Wb ⟨rfl, hWb⟩; have hWb := hWb.symm; subst hWb)
  go_wp2_with fail
  with_reducible refine (HAT.out).mono ?_
  rintro e W2 ⟨rfl, h2, hr2, hp2, hx2⟩
  have HF := Lib.hid (And.intro hr2 (And.intro hp2 hx2))
  clear hr2 hp2 hx2 HAT
  go_wp2_with fail
  go_ret
  exact ⟨rfl, h2, HF.out⟩
end
end RF
end Go.Proofs.YtaodldagmmephaaGreat

/- raft, plain: what a call tells. -/
namespace Go.Proofs.YtaodldagmmephaaGreat
open Go.RowKit Go.Maps
namespace RF
/-- What says how far a call has come. -/
structure Cq where
  id : Int
  term : Int
  vote : Int
  commit : Int
  b : Int
  t : Int
  l : List En
  hd : Bool
  fr : Int
def RS.cq (s : RS) : Cq := ⟨s.id, s.term, s.vote, s.commit, s.b, s.t, s.l, s.out.hd, s.out.fr⟩
def RS.ev (s : RS) : Int × List Int := (s.elapsed, s.votes)
/-- How far a call has come, seen from its start. -/
structure Gh (a s : RS) : Prop where
  id : s.id = a.id
  term : a.term ≤ s.term
  commit : a.commit ≤ s.commit
  vote : s.term = a.term → s.vote = a.vote ∨ a.vote = 0
  hd : s.out.hd = true ↔ s.term ≠ a.term ∨ s.vote ≠ a.vote ∨ s.commit ≠ a.commit
structure Gl (a s : RS) : Prop where
  fr0 : 0 ≤ s.out.fr
  same : s.out.fr = 0 → s.b = a.b ∧ s.t = a.t ∧ s.l = a.l
  fr : s.out.fr ≤ s.last + 1
/-- A message as a core sends it. -/
structure MOk (s : RS) (m : Mg) : Prop where
  fr : m.fr = s.id
  tq : m.tq ≠ s.id
  tm : m.tm = s.term
  kd : 1 ≤ m.kd ∧ m.kd ≤ 6
  en : 0 < m.en.length → m.kd = 3
  few : m.en.length ≤ 8 ∧ ∀ j, j < m.en.length → (HL.el m.en j).ix ≤ s.last ∧ 0 ≤ m.ix
  ix : ∀ j, j < m.en.length → (HL.el m.en j).ix = m.ix + (j : Int) + 1
  app : m.kd = 3 → s.role = 2
  ask : m.kd = 1 → s.role = 1
  sub : ∀ e ∈ m.en, e ∈ s.l
structure Say (s : RS) : Prop where
  ms : ∀ m ∈ s.out.ms, MOk s m
  nd : ∀ x ∈ s.out.nd, x ≠ s.id ∧ s.role = 2
def RS.Em (s : RS) : Prop := s.out.ms = [] ∧ s.out.nd = []
def Ev (k : Nat) (s : RS) : Prop := (0 ≤ s.elapsed ∧ s.elapsed ≤ 4611686018427387904) ∧ s.votes.length ≤ k
section
variable {a s z : RS} {m : Mg} {M : Int} {N k : Nat}
theorem Cq.parts (h : z.cq = s.cq) : z.id = s.id ∧ z.term = s.term ∧ z.vote = s.vote ∧ z.commit = s.commit ∧ z.b = s.b ∧ z.t = s.t ∧ z.l = s.l ∧ z.out.hd = s.out.hd ∧ z.out.fr = s.out.fr := by
  unfold RS.cq at h
  injection h
  exact ⟨‹_›, ‹_›, ‹_›, ‹_›, ‹_›, ‹_›, ‹_›, ‹_›, ‹_›⟩
theorem Cq.last (h : z.cq = s.cq) : z.last = s.last := by
  obtain ⟨_, _, _, _, h1, h2, h3, _⟩ := Cq.parts h
  unfold RS.last
  rw [h1, h2, h3]
theorem Gh.of (G : Gh a s) (h : z.cq = s.cq) : Gh a z := by
  obtain ⟨h1, h2, h3, h4, _, _, _, h8, _⟩ := Cq.parts h
  exact ⟨h1.trans G.id, by rw [h2]; exact G.term, by rw [h4]; exact G.commit, by rw [h2, h3]; exact G.vote, by rw [h2, h3, h4, h8]; exact G.hd⟩
theorem Gl.of (G : Gl a s) (h : z.cq = s.cq) : Gl a z := by
  obtain ⟨_, _, _, _, h5, h6, h7, _, h9⟩ := Cq.parts h
  exact ⟨by rw [h9]; exact G.fr0, by rw [h9, h5, h6, h7]; exact G.same, by rw [h9, Cq.last h]; exact G.fr⟩
theorem Gh.start (h : a.out = ot0) : Gh a a := ⟨rfl, Int.le_refl _, Int.le_refl _, fun _ => .inl rfl, by rw [h]; simp [ot0]⟩
theorem Gl.start (h : a.out = ot0) (B : RB M N a) : Gl a a := ⟨by rw [h]; exact Int.le_refl _, fun _ => ⟨rfl, rfl, rfl⟩, by rw [h]; have := B.lastLo; show (0 : Int) ≤ _; omega⟩
theorem Ev.of (h : Ev k s) (e : z.ev = s.ev) : Ev k z := by
  unfold RS.ev at e
  injection e with e1 e2
  unfold Ev
  rw [e1, e2]
  exact h
/-! What keeps all this. -/
theorem cq_know (s : RS) (i : Int) : (s.know i).cq = s.cq ∧ (s.know i).ev = s.ev ∧ (s.know i).out = s.out ∧ (s.know i).role = s.role := by unfold RS.know; split <;> exact ⟨rfl, rfl, rfl, rfl⟩
theorem cq_knowAll : ∀ (L : List Int) (s : RS), (s.knowAll L).cq = s.cq ∧ (s.knowAll L).ev = s.ev ∧ (s.knowAll L).out = s.out ∧ (s.knowAll L).role = s.role
  | [], _ => ⟨rfl, rfl, rfl, rfl⟩
  | y :: L, s => by
    have h1 := cq_knowAll L (s.know y)
    have h2 := cq_know s y
    exact ⟨h1.1.trans h2.1, h1.2.1.trans h2.2.1, h1.2.2.1.trans h2.2.2.1, h1.2.2.2.trans h2.2.2.2⟩
theorem cq_send (s : RS) (i : Int) : (s.send i).cq = s.cq ∧ (s.send i).ev = s.ev ∧ (s.send i).role = s.role := by
  have h := cq_know s i
  unfold RS.send RS.send1
  split
  · exact ⟨h.1, h.2.1, h.2.2.2⟩
  · exact ⟨h.1, h.2.1, h.2.2.2⟩
theorem cq_foldSend : ∀ (L : List Int) (s : RS), (L.foldl RS.send s).cq = s.cq ∧ (L.foldl RS.send s).ev = s.ev ∧ (L.foldl RS.send s).role = s.role
  | [], _ => ⟨rfl, rfl, rfl⟩
  | y :: L, s => by
    have h1 := cq_foldSend L (s.send y)
    have h2 := cq_send s y
    exact ⟨h1.1.trans h2.1, h1.2.1.trans h2.2.1, h1.2.2.trans h2.2.2⟩
theorem cq_sendAll (s : RS) : s.sendAll.cq = s.cq ∧ s.sendAll.ev = s.ev ∧ s.sendAll.role = s.role := cq_foldSend _ _
theorem cq_foldSay (f : Int → Mg) : ∀ (L : List Int) (s : RS), (L.foldl (fun r i => r.say (f i)) s).cq = s.cq ∧ (L.foldl (fun r i => r.say (f i)) s).ev = s.ev ∧ (L.foldl (fun r i => r.say (f i)) s).role = s.role
  | [], _ => ⟨rfl, rfl, rfl⟩
  | y :: L, s => cq_foldSay f L (s.say (f y))
theorem cq_count2 (s : RS) : s.count2.cq = s.cq ∧ s.count2.ev = s.ev ∧ s.count2.out = s.out := by
  unfold RS.count2
  split
  · unfold RS.down
    rw [if_neg (by omega)]
    exact ⟨rfl, rfl, rfl⟩
  · exact ⟨rfl, rfl, rfl⟩
theorem cq_follow (s : RS) (m : Mg) : (s.follow m).cq = s.cq ∧ (s.follow m).out = s.out := by unfold RS.follow; split <;> exact ⟨rfl, rfl⟩
theorem cq_voteRes1 (s : RS) (m : Mg) : (s.voteRes1 m).cq = s.cq ∧ (s.voteRes1 m).out = s.out ∧ (s.voteRes1 m).elapsed = s.elapsed ∧ (s.voteRes1 m).votes.length ≤ s.votes.length + 1 ∧ (s.voteRes1 m).role = s.role := by
  unfold RS.voteRes1
  split
  · exact ⟨rfl, rfl, rfl, Nat.le_succ _, rfl⟩
  · exact ⟨rfl, rfl, rfl, by simp, rfl⟩
theorem cq_regard (s : RS) (n : Int) : (s.regard n).cq = s.cq ∧ (s.regard n).ev = s.ev ∧ (s.regard n).out = s.out ∧ (s.regard n).role = s.role := by
  have h : ∀ (L : List Int) (r : RS), (L.foldl (fun r i => match pget r.ps i with | some _ => r | none => { r with ps := (i, ⟨n, 0, 0⟩) :: r.ps }) r).cq = r.cq ∧ (L.foldl (fun r i => match pget r.ps i with | some _ => r | none => { r with ps := (i, ⟨n, 0, 0⟩) :: r.ps }) r).ev = r.ev ∧ (L.foldl (fun r i => match pget r.ps i with | some _ => r | none => { r with ps := (i, ⟨n, 0, 0⟩) :: r.ps }) r).out = r.out ∧ (L.foldl (fun r i => match pget r.ps i with | some _ => r | none => { r with ps := (i, ⟨n, 0, 0⟩) :: r.ps }) r).role = r.role := by
    intro L
    induction L with
    | nil => exact fun _ => ⟨rfl, rfl, rfl, rfl⟩
    | cons y L ih =>
      intro r
      rw [List.foldl_cons]
      have h1 := ih (match pget r.ps y with | some _ => r | none => { r with ps := (y, ⟨n, 0, 0⟩) :: r.ps })
      have h2 : (match pget r.ps y with | some _ => r | none => { r with ps := (y, ⟨n, 0, 0⟩) :: r.ps }).cq = r.cq ∧ (match pget r.ps y with | some _ => r | none => { r with ps := (y, ⟨n, 0, 0⟩) :: r.ps }).ev = r.ev ∧ (match pget r.ps y with | some _ => r | none => { r with ps := (y, ⟨n, 0, 0⟩) :: r.ps }).out = r.out ∧ (match pget r.ps y with | some _ => r | none => { r with ps := (y, ⟨n, 0, 0⟩) :: r.ps }).role = r.role := by
        split <;> exact ⟨rfl, rfl, rfl, rfl⟩
      exact ⟨h1.1.trans h2.1, h1.2.1.trans h2.2.1, h1.2.2.1.trans h2.2.2.1, h1.2.2.2.trans h2.2.2.2⟩
  exact h _ _
/-! What changes it. -/
theorem Gh.down (G : Gh a s) (t : Int) : Gh a (s.down t) := by
  unfold RS.down
  have g1 := G.term
  split
  · exact ⟨G.id, by show a.term ≤ t; omega, G.commit, fun e => by have e : t = a.term := e; omega, ⟨fun _ => .inl (by show t ≠ a.term; omega), fun _ => rfl⟩⟩
  · exact ⟨G.id, G.term, G.commit, G.vote, G.hd⟩
theorem Gl.down (G : Gl a s) (t : Int) : Gl a (s.down t) := by
  unfold RS.down
  split <;> exact ⟨G.fr0, G.same, G.fr⟩
theorem Gh.count1 (G : Gh a s) (x : Int) : Gh a (s.count1 x) := by
  unfold RS.count1
  have g1 := G.commit
  split
  · rename_i h
    exact ⟨G.id, G.term, by show a.commit ≤ x; omega, G.vote, ⟨fun _ => .inr (.inr (by show x ≠ a.commit; omega)), fun _ => rfl⟩⟩
  · exact G
theorem Gl.count1 (G : Gl a s) (x : Int) : Gl a (s.count1 x) := by
  unfold RS.count1
  split
  · exact ⟨G.fr0, G.same, G.fr⟩
  · exact G
theorem ev_count1 (s : RS) (x : Int) : (s.count1 x).ev = s.ev ∧ (s.count1 x).out.ms = s.out.ms ∧ (s.count1 x).out.nd = s.out.nd := by unfold RS.count1; split <;> exact ⟨rfl, rfl, rfl⟩
theorem Gh.count (G : Gh a s) : Gh a s.count := ((G.of (cq_knowAll _ _).1).count1 _).of (cq_count2 _).1
theorem Gl.count (G : Gl a s) : Gl a s.count := ((G.of (cq_knowAll _ _).1).count1 _).of (cq_count2 _).1
theorem ev_count (s : RS) : s.count.ev = s.ev := ((cq_count2 _).2.1.trans (ev_count1 _ _).1).trans (cq_knowAll _ _).2.1
theorem em_count (h : s.Em) : s.count.Em := by
  unfold RS.count RS.Em
  rw [(cq_count2 _).2.2, (ev_count1 _ _).2.1, (ev_count1 _ _).2.2, (cq_knowAll _ _).2.2.1]
  exact h
theorem Gh.grant (G : Gh a s) (h : s.vote = 0 ∨ s.vote = m.fr) (h1 : 1 ≤ m.fr) : Gh a (s.grant m) := by
  have g1 := G.vote
  have g2 := G.hd
  have g3 : (s.grant m).out.hd = (s.out.hd || !decide (s.vote = m.fr)) := rfl
  refine ⟨G.id, G.term, G.commit, fun e => ?_, ?_⟩
  · show m.fr = a.vote ∨ a.vote = 0
    have := g1 e
    omega
  · rw [g3]
    show _ ↔ s.term ≠ a.term ∨ m.fr ≠ a.vote ∨ s.commit ≠ a.commit
    by_cases hv : s.vote = m.fr
    · rw [decide_eq_true hv, Bool.not_true, Bool.or_false, ← hv]
      exact g2
    · rw [decide_eq_false hv, Bool.not_false, Bool.or_true]
      refine ⟨fun _ => ?_, fun _ => rfl⟩
      by_cases e : s.term = a.term
      · have := g1 e
        right; left; omega
      · exact .inl e
theorem Gh.stand1 (G : Gh a s) (d : Int) : Gh a (s.stand1 d) := by
  have g1 := G.term
  exact ⟨G.id, by show a.term ≤ s.term + 1; omega, G.commit, fun e => by have e : s.term + 1 = a.term := e; omega, ⟨fun _ => .inl (by show s.term + 1 ≠ a.term; omega), fun _ => rfl⟩⟩
theorem last_put (b t : Int) (l : List En) (e : En) : lastS b t (l ++ [e]) = (e.ix, e.tm) := by
  unfold lastS
  rw [if_neg (by simp)]
  have : HL.el (l ++ [e]) ((l ++ [e]).length - 1) = e := by
    unfold HL.el
    rw [List.getD_eq_getElem?_getD, show (l ++ [e]).length - 1 = l.length by simp, List.getElem?_append_right (Nat.le_refl _)]
    simp
  rw [this]
theorem cq_add (s : RS) (kd : Int) (da : ByteArray) : Gh a s → Gh a (s.add kd da) := fun G => by
  unfold RS.add RS.changed
  split <;> exact ⟨G.id, G.term, G.commit, G.vote, G.hd⟩
theorem Gl.add (G : Gl a s) (B : RB M N s) (kd : Int) (da : ByteArray) : Gl a (s.add kd da) := by
  have h0 := B.lastLo
  have g0 := G.fr0
  have g1 := G.fr
  have hl : (s.put ⟨s.last + 1, s.term, kd, da⟩).last = s.last + 1 := by
    show (lastS s.b s.t (s.l ++ [_])).1 = _
    rw [last_put]
  unfold RS.add RS.changed
  split
  · refine ⟨by show 0 ≤ s.last + 1; omega, fun e => by have e : s.last + 1 = 0 := e; omega, ?_⟩
    show s.last + 1 ≤ (s.put ⟨s.last + 1, s.term, kd, da⟩).last + 1
    rw [hl]; omega
  · rename_i hn
    have hn : ¬ (s.out.fr = 0 ∨ s.last + 1 < s.out.fr) := hn
    refine ⟨g0, fun e => by have e : s.out.fr = 0 := e; exact absurd (.inl e) hn, ?_⟩
    show s.out.fr ≤ (s.put ⟨s.last + 1, s.term, kd, da⟩).last + 1
    rw [hl]; omega
theorem ev_add (s : RS) (kd : Int) (da : ByteArray) : (s.add kd da).ev = s.ev ∧ (s.add kd da).out.ms = s.out.ms ∧ (s.add kd da).out.nd = s.out.nd := by
  unfold RS.add RS.changed
  split <;> exact ⟨rfl, rfl, rfl⟩
/-! What is said. -/
theorem Say.em (h : s.Em) : Say s := ⟨fun m hm => by rw [h.1] at hm; exact absurd hm List.not_mem_nil, fun x hx => by rw [h.2] at hx; exact absurd hx List.not_mem_nil⟩
theorem Say.put (S : Say s) (m : Mg) (h1 : m.tq ≠ s.id) (h2 : 1 ≤ m.kd ∧ m.kd ≤ 6) (h3 : 0 < m.en.length → m.kd = 3) (h4 : m.en.length ≤ 8 ∧ ∀ j, j < m.en.length → (HL.el m.en j).ix ≤ s.last ∧ 0 ≤ m.ix) (h5 : ∀ j, j < m.en.length → (HL.el m.en j).ix = m.ix + (j : Int) + 1) (h6 : m.kd = 3 → s.role = 2) (h7 : m.kd = 1 → s.role = 1) (h8 : ∀ e ∈ m.en, e ∈ s.l) : Say (s.say m) := by
  refine ⟨fun x hx => ?_, S.nd⟩
  have hx : x ∈ s.out.ms ++ [{ m with fr := s.id, tm := s.term }] := hx
  rcases List.mem_append.1 hx with hx | hx
  · have q := S.ms x hx
    exact ⟨q.fr, q.tq, q.tm, q.kd, q.en, q.few, q.ix, q.app, q.ask, q.sub⟩
  · rw [List.mem_singleton] at hx
    subst hx
    exact ⟨rfl, h1, rfl, h2, h3, h4, h5, h6, h7, h8⟩
theorem Say.bare (S : Say s) (m : Mg) (h1 : m.tq ≠ s.id) (h2 : 1 ≤ m.kd ∧ m.kd ≤ 6) (h3 : m.en = []) (h6 : m.kd = 3 → s.role = 2) (h7 : m.kd = 1 → s.role = 1) : Say (s.say m) :=
  S.put m h1 h2 (fun h => by rw [h3] at h; exact absurd h (by show ¬ 0 < 0; omega)) ⟨by rw [h3]; exact Nat.zero_le _, fun j h => by rw [h3] at h; exact absurd h (Nat.not_lt_zero _)⟩ (fun j h => by rw [h3] at h; exact absurd h (Nat.not_lt_zero _)) h6 h7 (fun e he => by rw [h3] at he; exact absurd he List.not_mem_nil)
theorem slice_ix {b t : Int} {l : List En} (hf : followB b t l = true) (hb : 0 ≤ b) {nx : Int} (hn : b < nx) : ((sliceS b l nx 8).length ≤ 8 ∧ ∀ j, j < (sliceS b l nx 8).length → (HL.el (sliceS b l nx 8) j).ix ≤ (lastS b t l).1 ∧ 0 ≤ nx - 1) ∧ ∀ j, j < (sliceS b l nx 8).length → (HL.el (sliceS b l nx 8) j).ix = nx - 1 + (j : Int) + 1 := by
  have hla := follow_last l b t hf
  unfold sliceS
  split
  · exact ⟨⟨Nat.zero_le _, fun j h => absurd h (Nat.not_lt_zero _)⟩, fun j h => absurd h (Nat.not_lt_zero _)⟩
  · have key : ∀ j, j < ((l.drop (nx - b - 1).toNat).take (8 : Int).toNat).length → (HL.el ((l.drop (nx - b - 1).toNat).take (8 : Int).toNat) j).ix = nx - 1 + (j : Int) + 1 ∧ (nx - b - 1).toNat + j < l.length := fun j hj => by
      have hj2 : j < ((l.drop (nx - b - 1).toNat)).length := by rw [List.length_take] at hj; omega
      have e : HL.el ((l.drop (nx - b - 1).toNat).take (8 : Int).toNat) j = HL.el l ((nx - b - 1).toNat + j) := by
        unfold HL.el
        rw [List.getD_eq_getElem?_getD, List.getD_eq_getElem?_getD, List.getElem?_take, if_pos (by rw [List.length_take] at hj; omega), List.getElem?_drop]
      rw [List.length_drop] at hj2
      refine ⟨?_, by omega⟩
      rw [e, follow_ix l b t _ hf (by omega)]
      omega
    refine ⟨⟨by rw [List.length_take]; exact Nat.min_le_left _ _, fun j hj => ?_⟩, fun j hj => (key j hj).1⟩
    have h := key j hj
    rw [h.1, hla]
    omega
theorem slice_sub {b : Int} {l : List En} {nx : Int} : ∀ e ∈ sliceS b l nx 8, e ∈ l := by
  intro e he
  unfold sliceS at he
  split at he
  · exact absurd he List.not_mem_nil
  · exact List.mem_of_mem_drop (List.mem_of_mem_take he)
theorem Say.send (S : Say s) (i : Int) (hi : i ≠ s.id) (hr : s.role = 2) (hok : newOk s.b s.t s.l = true) : Say (s.send i) := by
  obtain ⟨h1, h2, h3, h4⟩ := cq_know s i
  obtain ⟨c1, c2, c3, c4, c5, c6, c7, c8, c9⟩ := Cq.parts h1
  have S1 : Say (s.know i) := ⟨fun m hm => by
    rw [h3] at hm
    have q := S.ms m hm
    exact ⟨by rw [c1]; exact q.fr, by rw [c1]; exact q.tq, by rw [c2]; exact q.tm, q.kd, q.en, by rw [Cq.last h1]; exact q.few, q.ix, by rw [h4]; exact q.app, by rw [h4]; exact q.ask, by rw [c7]; exact q.sub⟩, fun x hx => by
    rw [h3] at hx
    rw [c1, h4]
    exact S.nd x hx⟩
  have hid : i ≠ (s.know i).id := by rw [c1]; exact hi
  have hrl : (s.know i).role = 2 := h4.trans hr
  have hf : followB (s.know i).b (s.know i).t (s.know i).l = true := by rw [c5, c6, c7]; exact (newOk_parts hok).2.2
  have hb0 : 0 ≤ (s.know i).b := by rw [c5]; exact (newOk_parts hok).1
  unfold RS.send
  generalize s.know i = z at *
  unfold RS.send1
  split
  · refine Say.bare ⟨fun m hm => ?_, fun x hx => ?_⟩ _ hid ⟨by show (1 : Int) ≤ 3; omega, by show (3 : Int) ≤ 6; omega⟩ rfl (fun _ => hrl) (fun e => absurd e (by show ¬ (3 : Int) = 1; omega))
    · have q := S1.ms m hm
      exact ⟨q.fr, q.tq, q.tm, q.kd, q.en, q.few, q.ix, q.app, q.ask, q.sub⟩
    · have hx : x ∈ z.out.nd ++ [i] := hx
      rcases List.mem_append.1 hx with hx | hx
      · exact S1.nd x hx
      · rw [List.mem_singleton] at hx
        subst hx
        exact ⟨hid, hrl⟩
  · rename_i hnx
    have hs := slice_ix hf hb0 (nx := (z.pr i).nx) (by omega)
    exact S1.put _ hid ⟨by show (1 : Int) ≤ 3; omega, by show (3 : Int) ≤ 6; omega⟩ (fun _ => rfl) hs.1 hs.2 (fun _ => hrl) (fun e => absurd e (by show ¬ (3 : Int) = 1; omega)) slice_sub
theorem Say.foldSend : ∀ (L : List Int) (s : RS), Say s → (∀ i ∈ L, i ≠ s.id) → s.role = 2 → newOk s.b s.t s.l = true → Say (L.foldl RS.send s)
  | [], _, S, _, _, _ => S
  | y :: L, s, S, h, hr, hok => by
    obtain ⟨c, _, r⟩ := cq_send s y
    obtain ⟨c1, c2, c3, c4, c5, c6, c7, c8, c9⟩ := Cq.parts c
    exact Say.foldSend L (s.send y) (S.send y (h y List.mem_cons_self) hr hok) (fun i hi => by rw [c1]; exact h i (List.mem_cons_of_mem _ hi)) (r.trans hr) (by rw [c5, c6, c7]; exact hok)
theorem oth_ne (s : RS) : ∀ i ∈ s.others, i ≠ s.id := fun i hi => by
  unfold RS.others at hi
  have := (List.mem_filter.1 hi).2
  simpa using this
theorem Say.sendAll (S : Say s) (hr : s.role = 2) (hok : newOk s.b s.t s.l = true) : Say s.sendAll := Say.foldSend _ _ S (oth_ne s) hr hok
theorem Say.askAll (S : Say s) (hr : s.role = 1) : Say s.askAll := by
  unfold RS.askAll
  have h : ∀ (ix lt : Int) (L : List Int) (z : RS), Say z → z.role = 1 → (∀ i ∈ L, i ≠ z.id) → Say (L.foldl (fun r i => r.say { mg0 with kd := 1, tq := i, ix := ix, lt := lt }) z) := by
    intro ix lt L
    induction L with
    | nil => exact fun _ S _ _ => S
    | cons y L ih =>
      intro z S hr hi
      exact ih _ (S.bare _ (hi y List.mem_cons_self) ⟨Int.le_refl _, by show (1 : Int) ≤ 6; omega⟩ rfl (fun e => absurd e (by show ¬ (1 : Int) = 3; omega)) (fun _ => hr)) hr (fun i h => hi i (List.mem_cons_of_mem _ h))
  exact h _ _ _ _ S hr (oth_ne s)
end
end RF
end Go.Proofs.YtaodldagmmephaaGreat

/- raft, plain: what each of a core's calls tells. -/
namespace Go.Proofs.YtaodldagmmephaaGreat
open Go.RowKit Go.Maps
namespace RF
/-- A call that has told nothing yet. -/
structure Pre (a s : RS) (k : Nat) : Prop where
  gh : Gh a s
  gl : Gl a s
  em : s.Em
  ev : Ev k s
/-- A call as it ends. -/
structure Told (a s : RS) (k : Nat) : Prop where
  gh : Gh a s
  gl : Gl a s
  say : Say s
  ev : Ev k s
section
variable {a s z : RS} {m : Mg} {M : Int} {N k : Nat}
theorem Pre.told (P : Pre a s k) : Told a s k := ⟨P.gh, P.gl, Say.em P.em, P.ev⟩
theorem Pre.start (h : a.out = ot0) (B : RB M N a) (e : Ev k a) : Pre a a k := ⟨Gh.start h, Gl.start h B, by unfold RS.Em; rw [h]; exact ⟨rfl, rfl⟩, e⟩
theorem Ev.mono {k' : Nat} (e : Ev k s) (h : k ≤ k') : Ev k' s := ⟨e.1, Nat.le_trans e.2 h⟩
theorem Told.mono {k' : Nat} (P : Told a s k) (h : k ≤ k') : Told a s k' := ⟨P.gh, P.gl, P.say, P.ev.mono h⟩
theorem Pre.mono {k' : Nat} (P : Pre a s k) (h : k ≤ k') : Pre a s k' := ⟨P.gh, P.gl, P.em, P.ev.mono h⟩
theorem Pre.knowAll (P : Pre a s k) (L : List Int) : Pre a (s.knowAll L) k := by
  obtain ⟨h1, h2, h3, _⟩ := cq_knowAll L s
  exact ⟨P.gh.of h1, P.gl.of h1, by unfold RS.Em; rw [h3]; exact P.em, P.ev.of h2⟩
theorem Pre.know (P : Pre a s k) (i : Int) : Pre a (s.know i) k := P.knowAll [i]
theorem Pre.count (P : Pre a s k) : Pre a s.count k := ⟨P.gh.count, P.gl.count, em_count P.em, P.ev.of (ev_count s)⟩
theorem Pre.add (P : Pre a s k) (B : RB M N s) (kd : Int) (da : ByteArray) : Pre a (s.add kd da) k := by
  obtain ⟨h1, h2, h3⟩ := ev_add s kd da
  exact ⟨cq_add s kd da P.gh, P.gl.add B kd da, by unfold RS.Em; rw [h2, h3]; exact P.em, P.ev.of h1⟩
theorem Pre.setPr (P : Pre a s k) (i : Int) (p : Pr) : Pre a (s.setPr i p) k := ⟨P.gh.of rfl, P.gl.of rfl, P.em, P.ev⟩
theorem Pre.win1 (P : Pre a s k) : Pre a s.win1 k := ⟨P.gh.of rfl, P.gl.of rfl, P.em, ⟨⟨Int.le_refl _, by show (0 : Int) ≤ _; omega⟩, P.ev.2⟩⟩
theorem Pre.down (P : Pre a s k) (t : Int) : Pre a (s.down t) k := by
  refine ⟨P.gh.down t, P.gl.down t, ?_, ?_⟩
  · unfold RS.down RS.Em; split <;> exact P.em
  · unfold RS.down Ev; split <;> exact P.ev
theorem Pre.turn (P : Pre a s k) (m : Mg) : Pre a (s.turn m) k := by
  unfold RS.turn
  split
  · exact P.down _
  · exact P
theorem Pre.sendAll (P : Pre a s k) (hr : s.role = 2) (B : RB M N s) : Told a s.sendAll k :=
  ⟨P.gh.of (cq_sendAll s).1, P.gl.of (cq_sendAll s).1, (Say.em P.em).sendAll hr B.log, P.ev.of (cq_sendAll s).2.1⟩
theorem Pre.send (P : Pre a s k) (i : Int) (hi : i ≠ s.id) (hr : s.role = 2) (B : RB M N s) : Told a (s.send i) k :=
  ⟨P.gh.of (cq_send s i).1, P.gl.of (cq_send s i).1, (Say.em P.em).send i hi hr B.log, P.ev.of (cq_send s i).2.1⟩
theorem Pre.say (P : Pre a s k) (m : Mg) (h1 : m.tq ≠ s.id) (h2 : 1 ≤ m.kd ∧ m.kd ≤ 6) (h3 : m.en = []) (h6 : m.kd ≠ 3) (h7 : m.kd ≠ 1) : Told a (s.say m) k :=
  ⟨P.gh.of rfl, P.gl.of rfl, (Say.em P.em).bare m h1 h2 h3 (fun e => absurd e h6) (fun e => absurd e h7), P.ev⟩
theorem Pre.win (P : Pre a s k) (B : RB M N s) (hM : M < 4503599627370496) (hN : N < 10000) : Told a s.win k := by
  have B1 := B.win1
  have hba := B1.knowAll s.win1.others (fun x hx => ⟨(B1.othId x hx).1, (B1.othId x hx).2.1⟩)
  have hc := (win_pre B hM hN).1
  have P1 := ((P.win1.knowAll s.win1.others).add hba 0 ⟨#[]⟩).count
  unfold RS.win
  dsimp only
  split
  · rename_i hr
    exact P1.sendAll hr hc
  · exact P1.told
theorem Pre.stand (P : Pre a s k) (B : RB M N s) (hM : M < 4503599627370496) (hN : N < 10000) (ht : s.term < 1152921504606846976) (hk : 1 ≤ k) (d : Int) : Told a (s.stand d) k := by
  have P1 : Pre a (s.stand1 d) k := ⟨P.gh.stand1 d, ⟨P.gl.fr0, P.gl.same, P.gl.fr⟩, P.em, ⟨⟨Int.le_refl _, by show (0 : Int) ≤ _; omega⟩, hk⟩⟩
  unfold RS.stand
  split
  · exact P1.win (B.stand1 ht) hM hN
  · have h := cq_foldSay (fun i => { mg0 with kd := 1, tq := i, ix := (lastS (s.stand1 d).b (s.stand1 d).t (s.stand1 d).l).1, lt := (lastS (s.stand1 d).b (s.stand1 d).t (s.stand1 d).l).2 }) (s.stand1 d).others (s.stand1 d)
    exact ⟨P1.gh.of h.1, P1.gl.of h.1, (Say.em P1.em).askAll rfl, P1.ev.of h.2.1⟩
theorem tick_told (h0 : s.out = ot0) (B : RB M N s) (e : Ev k s) (hk : 1 ≤ k) (hM : M < 4503599627370496) (hN : N < 10000) (d : Int) : Told s (s.tick0 d) k := by
  have P := Pre.start h0 B e
  have P1 : Pre s s.tick1 k := ⟨P.gh.of rfl, P.gl.of rfl, P.em, ⟨⟨by have := e.1.1; show 0 ≤ min (s.elapsed + 1) _; omega, by show min (s.elapsed + 1) (4611686018427387904 : Int) ≤ _; omega⟩, e.2⟩⟩
  have P2 : Pre s ({ s.tick1 with elapsed := 0 } : RS) k := ⟨P1.gh.of rfl, P1.gl.of rfl, P1.em, ⟨⟨Int.le_refl _, by show (0 : Int) ≤ _; omega⟩, e.2⟩⟩
  unfold RS.tick0
  split
  · rename_i hr
    split
    · exact P2.sendAll hr (B.of (s' := ({ s.tick1 with elapsed := 0 } : RS)) rfl rfl rfl rfl rfl rfl rfl rfl rfl)
    · exact P1.told
  · split
    · rename_i h
      exact P1.stand B.tick1 hM hN h.2.2 hk d
    · exact P1.told
theorem prop_told (h0 : s.out = ot0) (B : RB M N s) (e : Ev k s) (kd : Int) {da : ByteArray} (hda : da.size ≤ 2000000) (hM : M < 4503599627370496) (hN : N < 10000) : Told s (if s.propE kd da = 0 then s.prop0 kd da else s) k := by
  have P := Pre.start h0 B e
  split
  · have Pa := P.add B kd da
    have h := cq_regard (s.add kd da) (s.last + 1)
    have P1 : Pre s ((s.add kd da).regard (s.last + 1)) k := ⟨Pa.gh.of h.1, Pa.gl.of h.1, by unfold RS.Em; rw [h.2.2.1]; exact Pa.em, Pa.ev.of h.2.1⟩
    have hb := (prop_pre B kd hda hM hN).1.count
    unfold RS.prop0
    dsimp only
    split
    · rename_i hr
      exact P1.count.sendAll hr hb
    · exact P1.count.told
  · exact P.told
theorem ask_told (h0 : s.out = ot0) (B : RB M N s) (e : Ev k s) : Told s (if s.askE = 0 then s.ask0 else s) k := by
  have P := Pre.start h0 B e
  split
  · rename_i ha
    have hr : s.role = 2 := by
      unfold RS.askE at ha
      by_cases h : s.role = 2
      · exact h
      · rw [if_pos h] at ha; exact absurd ha (by decide)
    have P1 : Pre s ({ s with round := min (s.round + 1) 4611686018427387904 } : RS) k := ⟨P.gh.of rfl, P.gl.of rfl, P.em, e⟩
    exact ⟨P1.gh.of (cq_sendAll _).1, P1.gl.of (cq_sendAll _).1, (Say.em P1.em).sendAll hr B.log, P1.ev.of (cq_sendAll _).2.1⟩
  · exact P.told
theorem Pre.appRes (P : Pre a s k) (B : RB M N s) (m : Mg) : Told a (s.appRes m) k := by
  unfold RS.appRes
  by_cases h1 : s.role ≠ 2 ∨ ¬ m.fr ∈ s.others
  · rw [if_pos h1]; exact P.told
  rw [if_neg h1]
  have hin : m.fr ∈ s.others := by
    by_cases h : m.fr ∈ s.others
    · exact h
    · exact absurd (.inr h) h1
  have hr : s.role = 2 := by
    by_cases h : s.role = 2
    · exact h
    · exact absurd (.inl h) h1
  have hid := B.othId _ hin
  have hk := B.know hid.1 hid.2.1
  have hkp := know_pr s m.fr
  have hrk := (cq_know s m.fr).2.2.2
  have hik := (Cq.parts (cq_know s m.fr).1).1
  have Pk := P.know m.fr
  dsimp only
  have hne : m.fr ≠ (s.know m.fr).id := by rw [hik]; exact hid.2.2
  have hr2 : (s.know m.fr).role = 2 := hrk.trans hr
  have hkl : (s.know m.fr).last = s.last := (know_last s m.fr).1
  rw [← hkl]
  clear hrk hik hid hin h1 hkl
  generalize s.know m.fr = q at *
  by_cases h2 : m.ok = true ∧ (m.ix < 0 ∨ q.last < m.ix)
  · rw [if_pos h2]; exact Pk.told
  rw [if_neg h2]
  have hh := hk.heard hkp
  by_cases h3 : m.ok = false
  · rw [if_pos h3]
    unfold RS.appNo
    have hb : backS (q.heard m) m.ix ≤ (q.heard m).nx - 1 := by
      unfold backS
      split <;> omega
    have hs := hk.setPr (id := m.fr) (p := { q.heard m with nx := max (max ((q.heard m).mt + 1) (backS (q.heard m) m.ix)) 1 }) ⟨by show 1 ≤ max _ _; omega, by show max _ _ ≤ _; omega⟩ hh.2.1 hh.2.2
    exact (Pk.setPr _ _).send m.fr hne hr2 hs
  · rw [if_neg h3]
    unfold RS.appYes
    have htop := hk.top
    have hix : 0 ≤ m.ix ∧ m.ix ≤ q.last := by
      have h4 : m.ok = true := by simpa using h3
      constructor
      · by_cases h5 : m.ix < 0
        · exact absurd ⟨h4, .inl h5⟩ h2
        · omega
      · by_cases h5 : q.last < m.ix
        · exact absurd ⟨h4, .inr h5⟩ h2
        · omega
    have hs := hk.setPr (id := m.fr) (p := { q.heard m with mt := max (q.heard m).mt m.ix, nx := max (q.heard m).nx (max (q.heard m).mt m.ix + 1) }) ⟨by show 1 ≤ max _ _; omega, by show max _ _ ≤ _; omega⟩ ⟨by show 0 ≤ max _ _; omega, by show max _ _ ≤ _; omega⟩ hh.2.2
    have hc := hs.count
    have Pc := (Pk.setPr m.fr { q.heard m with mt := max (q.heard m).mt m.ix, nx := max (q.heard m).nx (max (q.heard m).mt m.ix + 1) }).count
    have hi2 : (q.setPr m.fr { q.heard m with mt := max (q.heard m).mt m.ix, nx := max (q.heard m).nx (max (q.heard m).mt m.ix + 1) }).count.id = q.id := by
      have h1 := (Cq.parts (cq_count2 (((q.setPr m.fr { q.heard m with mt := max (q.heard m).mt m.ix, nx := max (q.heard m).nx (max (q.heard m).mt m.ix + 1) }).knowAll (q.setPr m.fr { q.heard m with mt := max (q.heard m).mt m.ix, nx := max (q.heard m).nx (max (q.heard m).mt m.ix + 1) }).others).count1 ((q.setPr m.fr { q.heard m with mt := max (q.heard m).mt m.ix, nx := max (q.heard m).nx (max (q.heard m).mt m.ix + 1) }).far (q.setPr m.fr { q.heard m with mt := max (q.heard m).mt m.ix, nx := max (q.heard m).nx (max (q.heard m).mt m.ix + 1) }).last Pr.mt))).1).1
      have h2 : ∀ (y : RS) (x : Int), (y.count1 x).id = y.id := fun y x => by unfold RS.count1; split <;> rfl
      have h3 := (Cq.parts (cq_knowAll (q.setPr m.fr { q.heard m with mt := max (q.heard m).mt m.ix, nx := max (q.heard m).nx (max (q.heard m).mt m.ix + 1) }).others (q.setPr m.fr { q.heard m with mt := max (q.heard m).mt m.ix, nx := max (q.heard m).nx (max (q.heard m).mt m.ix + 1) })).1).1
      exact (h1.trans (h2 _ _)).trans h3
    dsimp only
    split
    · rename_i hr3
      exact Pc.send m.fr (by rw [hi2]; exact hne) hr3.1 hc
    · exact Pc.told
theorem sent_told (h0 : s.out = ot0) (B : RB M N s) (e : Ev k s) (m : Mg) : Told s (s.appRes m) k := (Pre.start h0 B e).appRes B m
theorem Pre.merged (P : Pre a s k) (B : RB M N s) (hok : (mergeS s.b s.t s.l m.ix m.lt s.commit m.en).1.2 = true) :
    Pre a (if 0 < (mergeS s.b s.t s.l m.ix m.lt s.commit m.en).1.1 then ({ s with l := (mergeS s.b s.t s.l m.ix m.lt s.commit m.en).2 } : RS).changed (mergeS s.b s.t s.l m.ix m.lt s.commit m.en).1.1 else ({ s with l := (mergeS s.b s.t s.l m.ix m.lt s.commit m.en).2 } : RS)) k := by
  have hp0 := newOk_parts B.log
  have I := merge_parts hp0.1 hok
  have hnew := (merge_log B.log hok).1
  have hla := follow_last _ _ _ (newOk_parts hnew).2.2
  split
  · rename_i hf
    obtain ⟨F, j, g1, g2, g3, g4, g5, _⟩ := I.grow (by omega)
    have hlen : (mergeS s.b s.t s.l m.ix m.lt s.commit m.en).2.length = j + (m.en.length - F) := by
      rw [g5, List.length_append, List.length_take, List.length_drop, Nat.min_eq_left g2]
    unfold RS.changed
    split
    · refine ⟨⟨P.gh.id, P.gh.term, P.gh.commit, P.gh.vote, P.gh.hd⟩, ⟨by show 0 ≤ (mergeS s.b s.t s.l m.ix m.lt s.commit m.en).1.1; omega, fun e => by have e : (mergeS s.b s.t s.l m.ix m.lt s.commit m.en).1.1 = 0 := e; omega, ?_⟩, P.em, P.ev⟩
      show (mergeS s.b s.t s.l m.ix m.lt s.commit m.en).1.1 ≤ (lastS s.b s.t (mergeS s.b s.t s.l m.ix m.lt s.commit m.en).2).1 + 1
      rw [hla, hlen]
      omega
    · rename_i hn
      have hn : ¬ (s.out.fr = 0 ∨ (mergeS s.b s.t s.l m.ix m.lt s.commit m.en).1.1 < s.out.fr) := hn
      refine ⟨⟨P.gh.id, P.gh.term, P.gh.commit, P.gh.vote, P.gh.hd⟩, ⟨P.gl.fr0, fun e => by have e : s.out.fr = 0 := e; exact absurd (.inl e) hn, ?_⟩, P.em, P.ev⟩
      show s.out.fr ≤ (lastS s.b s.t (mergeS s.b s.t s.l m.ix m.lt s.commit m.en).2).1 + 1
      rw [hla, hlen]
      omega
  · rename_i hf
    have h0 : (mergeS s.b s.t s.l m.ix m.lt s.commit m.en).1.1 = 0 := by
      apply Classical.byContradiction
      intro hne
      obtain ⟨F, j, g1, g2, g3, g4, g5, _⟩ := I.grow hne
      omega
    have hs := I.same h0
    rw [hs]
    exact ⟨⟨P.gh.id, P.gh.term, P.gh.commit, P.gh.vote, P.gh.hd⟩, ⟨P.gl.fr0, P.gl.same, P.gl.fr⟩, P.em, P.ev⟩
theorem Pre.appTo (P : Pre a s k) (m : Mg) (x : Int) : Pre a (s.appTo m x) k := by
  unfold RS.appTo
  have g1 := P.gh.commit
  split
  · rename_i h
    exact ⟨⟨P.gh.id, P.gh.term, by show a.commit ≤ min m.cm x; omega, P.gh.vote, ⟨fun _ => .inr (.inr (by show min m.cm x ≠ a.commit; omega)), fun _ => rfl⟩⟩, ⟨P.gl.fr0, P.gl.same, P.gl.fr⟩, P.em, P.ev⟩
  · exact P
theorem Pre.appReq (P : Pre a s k) (B : RB M N s) (m : Mg) (hne : m.fr ≠ s.id) : Told a (s.appReq m) k := by
  have hres : ∀ (z : RS) (ok : Bool) (ix : Int), Pre a z k → z.id = s.id → Told a (z.say (res m ok ix)) k := fun z ok ix Pz e =>
    Pz.say _ (by rw [e]; exact hne) ⟨by show (1 : Int) ≤ 4; omega, by show (4 : Int) ≤ 6; omega⟩ rfl (by show (4 : Int) ≠ 3; omega) (by show (4 : Int) ≠ 1; omega)
  unfold RS.appReq
  by_cases h1 : m.ix < s.b
  · rw [if_pos h1]; exact hres _ _ _ P rfl
  rw [if_neg h1]
  by_cases h2 : termS s.b s.t s.l m.ix ≠ some m.lt
  · rw [if_pos h2]; exact hres _ _ _ P rfl
  rw [if_neg h2]
  by_cases h3 : m.en.any (fun e => decide (m.tm < e.tm)) = true
  · rw [if_pos h3]; exact P.told
  rw [if_neg h3]
  by_cases h4 : (mergeS s.b s.t s.l m.ix m.lt s.commit m.en).1.2 = false
  · rw [if_pos h4]; exact P.told
  rw [if_neg h4]
  have h5 : (mergeS s.b s.t s.l m.ix m.lt s.commit m.en).1.2 = true := by simpa using h4
  have P1 := P.merged B h5
  dsimp only
  have P2 := P1.appTo m (m.ix + (m.en.length : Int))
  exact hres _ _ _ P2 (P2.gh.id.trans P.gh.id.symm)
theorem Pre.voteReq (P : Pre a s k) (m : Mg) (hne : m.fr ≠ s.id) (h1 : 1 ≤ m.fr) : Told a (s.voteReq m) k := by
  have hres : ∀ (z : RS) (ok : Bool), Pre a z k → z.id = s.id → Told a (z.say { mg0 with kd := 2, tq := m.fr, ok := ok }) k := fun z ok Pz e =>
    Pz.say _ (by rw [e]; exact hne) ⟨by show (1 : Int) ≤ 2; omega, by show (2 : Int) ≤ 6; omega⟩ rfl (by show (2 : Int) ≠ 3; omega) (by show (2 : Int) ≠ 1; omega)
  unfold RS.voteReq
  refine hres _ _ ?_ ?_
  · split
    · rename_i hv
      unfold RS.voteOk at hv
      rw [Bool.and_eq_true, Bool.and_eq_true, decide_eq_true_eq, decide_eq_true_eq] at hv
      exact ⟨P.gh.grant hv.1.1 h1, ⟨P.gl.fr0, P.gl.same, P.gl.fr⟩, P.em, ⟨⟨Int.le_refl _, by show (0 : Int) ≤ _; omega⟩, P.ev.2⟩⟩
    · exact P
  · split <;> rfl
theorem Pre.voteRes (P : Pre a s k) (B : RB M N s) (m : Mg) (hM : M < 4503599627370496) (hN : N < 10000) : Told a (s.voteRes m) (k + 1) := by
  unfold RS.voteRes
  obtain ⟨h1, h2, h3, h4, h5⟩ := cq_voteRes1 s m
  have P1 : Pre a (s.voteRes1 m) (k + 1) := ⟨P.gh.of h1, P.gl.of h1, by unfold RS.Em; rw [h2]; exact P.em, ⟨by rw [h3]; exact P.ev.1, by have := P.ev.2; omega⟩⟩
  split
  · exact (P.mono (Nat.le_succ _)).told
  · split
    · exact P1.win (B.voteRes1 m) hM hN
    · exact P1.told
theorem Pre.follow (P : Pre a s k) (m : Mg) : Pre a (s.follow m) k := by
  obtain ⟨h1, h2⟩ := cq_follow s m
  refine ⟨P.gh.of h1, P.gl.of h1, by unfold RS.Em; rw [h2]; exact P.em, ?_⟩
  unfold RS.follow
  split
  · exact P.ev
  · exact ⟨⟨Int.le_refl _, by show (0 : Int) ≤ _; omega⟩, P.ev.2⟩
theorem Pre.late (P : Pre a s k) (m : Mg) (hne : m.fr ≠ s.id) : Told a (s.late m) k := by
  unfold RS.late
  split
  · exact P.say _ hne ⟨by show (1 : Int) ≤ 2; omega, by show (2 : Int) ≤ 6; omega⟩ rfl (by show (2 : Int) ≠ 3; omega) (by show (2 : Int) ≠ 1; omega)
  split
  · exact P.say _ hne ⟨by show (1 : Int) ≤ 4; omega, by show (4 : Int) ≤ 6; omega⟩ rfl (by show (4 : Int) ≠ 3; omega) (by show (4 : Int) ≠ 1; omega)
  split
  · exact P.say _ hne ⟨by show (1 : Int) ≤ 6; omega, by show (6 : Int) ≤ 6; omega⟩ rfl (by show (6 : Int) ≠ 3; omega) (by show (6 : Int) ≠ 1; omega)
  · exact P.told
theorem step_told (h0 : s.out = ot0) (B : RB M N s) (e : Ev k s) (m : Mg) (hM : M < 4503599627370496) (hN : N < 10000) : Told s (s.step m) (k + 1) := by
  have P := Pre.start h0 B e
  unfold RS.step
  split
  case isFalse => exact (P.mono (Nat.le_succ _)).told
  case isTrue hh =>
    have hne : m.fr ≠ s.id := hh.2.2.2.1
    unfold RS.step0
    split
    · exact ((P.mono (Nat.le_succ _)).late m hne)
    · have Pt := P.turn m
      have Bt := B.turn (m := m) hh.2.2.2.2.2.2.2
      have hne : m.fr ≠ (s.turn m).id := by rw [Pt.gh.id]; exact hne
      generalize s.turn m = z at *
      have Pz := Pt.mono (Nat.le_succ k)
      unfold RS.step1
      split
      · exact Pz.voteReq m hne hh.2.1
      split
      · exact Pt.voteRes Bt m hM hN
      split
      · split
        · exact Pz.told
        · have Pf := Pz.follow m
          exact Pf.appReq (Bt.follow m) m (by rw [Pf.gh.id, ← Pz.gh.id]; exact hne)
      split
      · exact Pz.appRes Bt m
      split
      · exact (Pz.follow m).told
      · exact Pz.told
/-- What Restore leaves (it need not show that the term, the vote and the commit changed). -/
theorem rest_told (h0 : s.out = ot0) (B : RB M N s) (e : Ev k s) (ix tm : Int) (ms : List Int) : Gl s (if s.restOk ix tm ms then s.rest ix tm ms else s) ∧ Say (if s.restOk ix tm ms then s.rest ix tm ms else s) ∧ Ev k (if s.restOk ix tm ms then s.rest ix tm ms else s) := by
  have P := Pre.start h0 B e
  split
  case isFalse => exact ⟨P.gl, P.told.say, P.ev⟩
  case isTrue h =>
    have hc := B.commit
    have hx : 0 < ix := by have := h.2.1; omega
    have h1 : (s.rest1 ix tm).out = ot0 ∧ (s.rest1 ix tm).ev = s.ev ∧ (s.rest1 ix tm).id = s.id ∧ ix ≤ (s.rest1 ix tm).last := by
      unfold RS.rest1
      split
      · rename_i hat
        split
        · rename_i tt hcs
          refine ⟨h0, rfl, rfl, ?_⟩
          obtain ⟨c1, c2, c3, c4⟩ := comp_some B.log hcs
          show ix ≤ (lastS ix tt _).1
          rw [c4]
          have : (lastS s.b s.t s.l).1 = s.last := rfl
          have := B.lastE
          omega
        · rename_i hcs
          refine ⟨h0, rfl, rfl, ?_⟩
          have : atS s.b s.l ix ≠ none := fun e => by rw [e] at hat; cases hat
          unfold atS at this
          have hl := B.lastE
          by_cases hb : ix ≤ s.b ∨ (s.l.length : Int) < ix - s.b
          · rw [if_pos hb] at this; exact absurd rfl this
          · show ix ≤ s.last
            omega
      · exact ⟨h0, rfl, rfl, Int.le_refl _⟩
    obtain ⟨q1, q2, q3, q4⟩ := h1
    unfold RS.rest
    generalize s.rest1 ix tm = z at *
    unfold RS.changed
    have hz : z.out.fr = 0 ∧ z.out.ms = [] ∧ z.out.nd = [] := by rw [q1]; exact ⟨rfl, rfl, rfl⟩
    rw [if_pos (.inl hz.1)]
    refine ⟨⟨by show 0 ≤ ix + 1; omega, fun e => by have e : ix + 1 = 0 := e; omega, ?_⟩, Say.em ⟨hz.2.1, hz.2.2⟩, e.of q2⟩
    show ix + 1 ≤ z.last + 1
    omega
end
end RF
end Go.Proofs.YtaodldagmmephaaGreat

/- raft: Sent. -/
namespace Go.Proofs.YtaodldagmmephaaGreat
open Go.RowKit Go.Maps
namespace RF
/-- What a core that has sent a snapshot takes as heard. -/
def sentM (id ix : Int) : Mg := { mg0 with fr := id, ok := true, ix := ix }
def mxn0 : Mx := ⟨none, 0, false, none, 0, 0, 0, none, 0, 0⟩
section
variable {rb base : Nat} {s : RS} {h : Hd} {w : World} {M : Int} {N : Nat}
set_option maxHeartbeats 2000000 in
set_option maxRecDepth 100000 in
theorem rf_sent (id ix : Int) (H : Rf rb base s h w) (B : RB M N s) (hxl : -9223372036854775808 ≤ ix) (hcl : h.clean) (hout : s.out = ot0) :
    Calls Tryz.prog 40 #[.pointer (some ⟨rb, 0, none⟩), .int .i64 id, .int .i64 ix] w (Ans rb base (s.appRes (sentM id ix)) h w) := by
  have HBX : Hid (Below w.heap.size w (w.alloc (.cells #[.slice none 0 0, .bool false, .int .i64 0, .slice none 0 0] 37))) := Lib.hid ((Below.refl _ w).alloc (Nat.le_refl _) _)
  have HSZ : Hid ((w.alloc (.cells #[.slice none 0 0, .bool false, .int .i64 0, .slice none 0 0] 37)).heap.size = w.heap.size + 1) := Lib.hid (World.size_alloc _ _)
  have X2 := Lib.hid (CBox.fresh w [.slice none 0 0, .bool false, .int .i64 0, .slice none 0 0] 37)
  have HH := Lib.hid H
  have hrl := H.rlt
  have HR1 := Lib.hid (H.below HBX.out)
  have HBB := Lib.hid B
  have HCL := Lib.hid hcl
  have HMH : Hid (h.mh.length = 0) := Lib.hid (by rw [hcl.2.1]; rfl)
  have HND : Hid (s.out.nd.length = 0) := Lib.hid (by rw [hout]; rfl)
  have HNB : Hid ((s.appRes (sentM id ix)).out.nd.length ≤ 1) := Lib.hid (by have h1 := (B.appRes (sentM id ix)).2; have h2 := HND.out; omega)
  clear H B hcl hout
  go_enter Tryz.func40, Tryz.ntmps40
  go_upto_region 1 with fail
  dsimp only [List.toArray] at X2
  generalize w.alloc (.cells #[.slice none 0 0, .bool false, .int .i64 0, .slice none 0 0] 37) = Wb at *
  have HNO := Lib.hid (rf_none HR1.out)
  go_upto_region 3 with (with_reducible refine HNO.out.mono ?_; rintro e Wc ⟨rfl, hWc⟩; have hWc := hWc.symm; subst hWc)
  have HAR := Lib.hid (rf_appRes (sentM id ix) mxn0 HR1.out HBB.out hxl (by rw [HMH.out]; omega) (by rw [HND.out]; omega))
  unfold mxval mxn0 sentM mg0 at HAR
  dsimp only [List.length_nil] at HAR
  change Hid (Calls _ _ _ _ fun e w' => e = .returned (.tuple #[]) ∧ ∃ h', Rf rb base (s.appRes (sentM id ix)) h' w' ∧ PS rb h h' Wb w' ∧ h'.mh.length ≤ h.mh.length + 1) at HAR
  generalize s.appRes (sentM id ix) = z at *
  go_wp2_with fail
  with_reducible refine (HAR.out).mono ?_
  rintro e w3 ⟨rfl, h3, hr3, hp3, _⟩
  have hx := X2.out.keep hp3.1 (fun e => by have := (HH.out.lt e).2; omega)
  have HTL := Lib.hid (rf_tell hr3 hp3 HCL.out (by have := HNB.out; omega))
  have HXC := Lib.hid hx
  clear hr3 hp3 hx HAR HNO
  go_wp2_with fail
  with_reducible refine (HTL.out).mono ?_
  intro e w9 hA
  have HA := Lib.hid hA
  obtain ⟨p1, n1, k1, p2, n2, k2, rfl⟩ := hA.form
  have hx9 : CBox w.heap.size [.slice none 0 0, .bool false, .int .i64 0, .slice none 0 0] w9 := by
    obtain ⟨_, _, _, _, _, hp9, _⟩ := hA
    exact X2.out.keep hp9.1 (fun e => by have := (HH.out.lt e).2; omega)
  have t0 := hx9.1 0 _ rfl
  have t1 := hx9.1 1 _ rfl
  have t2 := hx9.1 2 _ rfl
  have t3 := hx9.1 3 _ rfl
  have u0 := hx9.2.1 0 (by show 0 < 4; omega)
  have u1 := hx9.2.1 1 (by show 1 < 4; omega)
  have u2 := hx9.2.1 2 (by show 2 < 4; omega)
  have u3 := hx9.2.1 3 (by show 3 < 4; omega)
  clear hA hx9 HTL HXC
  go_wp2_with fail
  refine bodyPost_ret (results_cell1 rfl _ _ _ ⟨w.heap.size, 0, none⟩ (.agg #[.slice p1 n1 k1, .bool z.out.hd, .int .i64 z.out.fr, .slice p2 n2 k2]) rfl (by go_simp)) rfl ?_
  exact Ans.boxed HH.out HA.out HBX.out HSZ.out ((((Fr.refl (fun k => k = w.heap.size) w9).setCell (p := ⟨w.heap.size, 0, none⟩) (fun _ => rfl) _).setCell (p := ⟨w.heap.size, 1, none⟩) (fun _ => rfl) _).setCell (p := ⟨w.heap.size, 2, none⟩) (fun _ => rfl) _ |>.setCell (p := ⟨w.heap.size, 3, none⟩) (fun _ => rfl) _)
end
end RF
end Go.Proofs.YtaodldagmmephaaGreat

