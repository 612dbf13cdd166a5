/- arboretumref1.Free: Give. -/
import Derived.Test.YtedcpckocedcoaaGreatDropI
import Derived.Test.YtedcpckocedcoaaGreatBkI
namespace Go.Proofs.YtedcpckocedcoaaGreat
open Go.RowKit

/-- The worlds in which only blocks of S, and new ones, may be other ones. -/
def Apt (S : Nat → Prop) (w : World) : Type := {W : World // Fr S w W}
instance (S : Nat → Prop) (w : World) : Inhabited (Apt S w) := ⟨⟨w, Fr.refl S w⟩⟩

section
variable {rb base : Nat} {lv wv pv : Value} {L : List Int} {Ws : List (Int × Int)} {P : List Int} {w w' : World}
/-- Another row of what waits. -/
theorem RFI.set1 {W : World} {wv' : Value} {Ws' : List (Int × Int)} (h : RFI rb base lv wv pv L Ws P w) (hF : Fr (fun j => wv.ownBlock = some j) w W) (ho : W.ownsRow base 83 2 wv' Ws'.length (rowOf wc2 Ws')) (hne : ∀ g, wv'.ownBlock = some g → wv.ownBlock = some g ∨ w.heap.size ≤ g) :
    RFI rb base lv wv' pv L Ws' P (W.setCell ⟨rb, 1, none⟩ wv') ∧ Fr (fun k => k = rb ∨ wv.ownBlock = some k) w (W.setCell ⟨rb, 1, none⟩ wv') := by
  have hrb : rb < w.heap.size := cell_lt h.c0
  have hS : ¬ wv.ownBlock = some rb := h.wn
  have k0 := (hF.cell (p := ⟨rb, 0, none⟩) hrb hS).trans h.c0
  have k1 := (hF.cell (p := ⟨rb, 1, none⟩) hrb hS).trans h.c1
  have k2 := (hF.cell (p := ⟨rb, 2, none⟩) hrb hS).trans h.c2
  have g0 := (hF.frozen (p := ⟨rb, 0, none⟩) hrb hS).trans h.f0
  have g1 := (hF.frozen (p := ⟨rb, 1, none⟩) hrb hS).trans h.f1
  have g2 := (hF.frozen (p := ⟨rb, 2, none⟩) hrb hS).trans h.f2
  have hlo := hF.owns h.lo (fun g hg e => owns_apart h.wo h.lo (by decide) e hg)
  have hpo := hF.owns h.po (fun g hg e => owns_apart h.wo h.po (by decide) e hg)
  have hF2 : Fr (fun k => k = rb) W (W.setCell ⟨rb, 1, none⟩ wv') := (Fr.refl (fun k => k = rb) W).setCell (p := ⟨rb, 1, none⟩) (fun _ => rfl) _
  have hn : ∀ g, wv'.ownBlock = some g → g ≠ rb := fun g hg e => by
    rcases hne g hg with h1 | h1
    · exact h.wn (by rw [h1, e])
    · omega
  have hoth := Others.set rb 1 W wv'
  have hs := hF.size
  exact ⟨⟨(hoth 0 (by omega)).1.trans k0, cell_set_same _ _ _ _ k1, (hoth 2 (by omega)).1.trans k2, by rw [frozen_set]; exact g0, by rw [frozen_set]; exact g1, by rw [frozen_set]; exact g2, hF2.owns hlo (fun g hg e => h.ln (by rw [hg, e])), hF2.owns ho (fun g hg => hn g hg), hF2.owns hpo (fun g hg e => h.pn (by rw [hg, e])), h.ln, fun e => hn rb e rfl, h.pn, Nat.le_trans h.bs (Nat.le_trans hs hF2.size), h.bb⟩,
    Fr.trans (hF.mono (fun _ _ e => .inr e)) hF2 (fun i hi _ => .inl hi)⟩
end

def given (t : Int) (ps : List Int) (k : Nat) : List (Int × Int) := (ps.take k).map fun x => (t, x)
theorem given_succ (t : Int) (ps : List Int) {k : Nat} (h : k < ps.length) : given t ps (k + 1) = given t ps k ++ [(t, HL.el ps k)] := by
  unfold given
  rw [el_take h, List.map_append]
  rfl
theorem given_length (t : Int) (ps : List Int) {k : Nat} (h : k ≤ ps.length) : (given t ps k).length = k := by
  unfold given
  rw [List.length_map, List.length_take]
  omega

/-- As Give goes on. -/
def GiveF (rb base : Nat) (lv pv : Value) (L : List Int) (Ws : List (Int × Int)) (P : List Int) (t : Int) (ps : List Int) (w : World) (k : Nat) (wr : World) : Prop :=
  ∃ wv', RFI rb base lv wv' pv L (Ws ++ given t ps k) P wr ∧ Fr (fun j => j = rb) w wr ∧ ∀ g, wv'.ownBlock = some g → w.heap.size ≤ g

theorem give_start {rb base : Nat} {lv wv pv v3 : Value} {L : List Int} {Ws : List (Int × Int)} {P : List Int} {t : Int} {ps : List Int} {w w3 : World} (h : RFI rb base lv wv pv L Ws P w) (hb : Below w.heap.size w w3) (ho : w3.ownsRow w.heap.size 83 2 v3 Ws.length (rowOf wc2 Ws)) : GiveF rb base lv pv L Ws P t ps w 0 (w3.setCell ⟨rb, 1, none⟩ v3) := by
  obtain ⟨e1, e2⟩ := h.set1 (W := w3) (wv' := v3) (Ws' := Ws) (Fr.of_all hb) (owns_low ho h.bs) (fun g hg => .inr (ho.lt g hg).1)
  have hk := (h.below hb)
  have hF2 : Fr (fun k => k = rb) w3 (w3.setCell ⟨rb, 1, none⟩ v3) := (Fr.refl (fun k => k = rb) w3).setCell (p := ⟨rb, 1, none⟩) (fun _ => rfl) _
  refine ⟨v3, ?_, Fr.trans (Fr.of_all (S := fun k => k = rb) hb) hF2 (fun i hi _ => hi), fun g hg => (ho.lt g hg).1⟩
  have e9 : Ws ++ given t ps 0 = Ws := by simp [given]
  rw [e9]
  exact e1

set_option maxHeartbeats 4000000 in
set_option maxRecDepth 100000 in
theorem rf_give (rb base : Nat) (lv wv pv : Value) (L : List Int) (Ws : List (Int × Int)) (P : List Int) (t : Int) (ps : List Int) (p : Option Addr) (n c : Nat) (w : World) (h : RFI rb base lv wv pv L Ws P w) (hp : RdI w w.heap.size p n ps) (hpb : ∀ b o, p = some ⟨b, o, none⟩ → 0 < n → b ≠ rb) (hn : Ws.length + n ≤ 10000) :
    Calls Tryz.prog 13 #[.pointer (some ⟨rb, 0, none⟩), .int .i64 t, .slice p n c] w fun e w' => e = .returned (.tuple #[]) ∧ GiveF rb base lv pv L Ws P t ps w n w' := by
  have H := Lib.hid h
  have HP := Lib.hid hp
  have HPB := Lib.hid hpb
  have HPL := Lib.hid hp.1
  obtain ⟨q, d, hv⟩ := owns_slice h.wo
  subst hv
  have c1 := h.c1
  have hlr := cell_lt c1
  have hnil : q = none → d = 0 := fun e => by
    rcases h.wo.2 with ⟨h1, _⟩ | ⟨_, _, _, h1, _⟩
    · injection h1
    · injection h1 with h1 _ _
      rw [h1] at e
      cases e
  have HNIL := Lib.hid hnil
  have HRD := Lib.hid (RdG.of_own (f := wc2) h.wo rfl)
  have HC : Hid (∀ V, Below w.heap.size w V → V.cell? ⟨rb, 1, none⟩ = some (.slice q Ws.length d) ∧ V.frozen? ⟨rb, 1, none⟩ = false) := Lib.hid (fun V hV => ⟨(hV.cell (p := ⟨rb, 1, none⟩) hlr).trans h.c1, ((Fr.of_all (S := fun _ => False) hV).frozen (p := ⟨rb, 1, none⟩) hlr (fun h => h)).trans h.f1⟩)
  clear h hp hpb hnil
  go_enter Tryz.func13, Tryz.ntmps13
  go_wp2_with (at_builtin; go_loud (refine RowT.app ww_T rfl _ _ rfl w.heap.size (.slice none 0 0) 0 [] rfl (World.ownsRow_nil _ _ _ _) (m := Ws.length) (zs := Ws) (B := w.heap.size) rfl HRD.out HNIL.out (by omega) (Nat.le_refl _) ?_; intro v3 w3 hown3 hgr3 _; rw [Nat.zero_add, List.nil_append] at hown3; obtain ⟨p3, c3, hv3⟩ := owns_slice hown3; subst hv3; have hb3 := ((Below.refl w.heap.size w).grown hgr3 (Nat.le_refl _) (fun j hj => by cases hj)); have HST : Hid (GiveF rb base lv pv L Ws P t ps w 0 (w3.setCell ⟨rb, 1, none⟩ (.slice p3 Ws.length c3))) := Lib.hid (give_start H.out hb3 hown3); have c13 := (HC.out w3 hb3).1; have f13 := (HC.out w3 hb3).2; clear hown3 hgr3 hb3))
  go_loopw [6] (fun iv wr => ∃ k : Nat, k ≤ n ∧ iv = .int .i64 k ∧ Hid (GiveF rb base lv pv L Ws P t ps w k wr)) (fun iv _ => n - (intOf iv).toNat)
  case atStart => exact ⟨0, Nat.zero_le _, rfl, HST⟩
  case round =>
    clear HST c13 f13
    obtain ⟨k, hk, rfl, HB⟩ := hrel
    by_cases hlt : k < n
    · obtain ⟨wv', hI, hF, hl'⟩ := HB.out
      obtain ⟨b, o, e, hb, hc⟩ := HP.out.2 (by omega)
      have hcell := (hF.cell (p := ⟨b, o + k, none⟩) hb (HPB.out b o e (by omega))).trans (hc k hlt)
      subst e
      obtain ⟨q3, d3, hv⟩ := owns_slice hI.wo
      subst hv
      have hcl := cell_lt hcell
      have hql := cell_lt hI.c1
      have hbw : ¬ (Value.slice q3 (Ws ++ given t ps k).length d3).ownBlock = some b := fun e => by have := hl' b e; omega
      have hwn := hI.wn
      have HLEN : Hid ((Ws ++ given t ps k).length = Ws.length + k) := Lib.hid (by rw [List.length_append, given_length t ps (by rw [HPL.out]; exact hk)])
      have PC : ∀ q2 : Apt (fun j => (Value.slice q3 (Ws ++ given t ps k).length d3).ownBlock = some j) wr, q2.1.cell? ⟨b, o + k, none⟩ = some (.int .i64 (HL.el ps k)) := fun q2 => (q2.2.cell (p := ⟨b, o + k, none⟩) hcl hbw).trans hcell
      have QC : ∀ q2 : Apt (fun j => (Value.slice q3 (Ws ++ given t ps k).length d3).ownBlock = some j) wr, q2.1.cell? ⟨rb, 1, none⟩ = some (.slice q3 (Ws ++ given t ps k).length d3) := fun q2 => (q2.2.cell (p := ⟨rb, 1, none⟩) hql hwn).trans hI.c1
      have HQF : Hid (∀ V, Fr (fun j => (Value.slice q3 (Ws ++ given t ps k).length d3).ownBlock = some j) wr V → V.cell? ⟨rb, 1, none⟩ = some (.slice q3 (Ws ++ given t ps k).length d3) ∧ V.frozen? ⟨rb, 1, none⟩ = false) := Lib.hid (fun V hV => ⟨(hV.cell (p := ⟨rb, 1, none⟩) hql hwn).trans hI.c1, (hV.frozen (p := ⟨rb, 1, none⟩) hql hwn).trans hI.f1⟩)
      have HWO := Lib.hid hI.wo
      have HBS := Lib.hid hI.bs
      have HSET : Hid (∀ (W : World) (u : Value), Fr (fun j => (Value.slice q3 (Ws ++ given t ps k).length d3).ownBlock = some j) wr W → W.ownsRow base 83 2 u ((Ws ++ given t ps k).length + 1) (rowOf wc2 (Ws ++ given t ps k) ++ rowOf wc2 [(t, HL.el ps k)]) → (∀ g, u.ownBlock = some g → (Value.slice q3 (Ws ++ given t ps k).length d3).ownBlock = some g ∨ wr.heap.size ≤ g) → GiveF rb base lv pv L Ws P t ps w (k + 1) (W.setCell ⟨rb, 1, none⟩ u)) := Lib.hid (fun W u hW ho hne => by
        have e9 : Ws ++ given t ps (k + 1) = (Ws ++ given t ps k) ++ [(t, HL.el ps k)] := by rw [given_succ t ps (by rw [HPL.out]; exact hlt), List.append_assoc]
        obtain ⟨e1, e2⟩ := hI.set1 (Ws' := Ws ++ given t ps (k + 1)) hW (by rw [e9, List.length_append, rowOf_append]; exact ho) hne
        refine ⟨u, e1, Fr.trans hF e2 (fun i hi hlt => ?_), fun g hg => ?_⟩
        · rcases hi with hi | hi
          · exact hi
          · have := hl' i hi; omega
        · rcases hne g hg with h1 | h1
          · exact hl' g h1
          · exact Nat.le_trans hF.size h1)
      have hd0 : Fr (fun j => (Value.slice q3 (Ws ++ given t ps k).length d3).ownBlock = some j) wr wr.drew := (Fr.refl _ wr).drew
      have HBd := Lib.hid hd0
      clear hI hF hl' hc hcell hcl hd0 HB hbw hwn hql
      generalize HL.el ps k = x at *
      generalize Ws ++ given t ps k = Wk at *
      go_wp2_with fail
      refine Mix.region_mix (n := 15) (m := 5) (fun V => ∃ q : Apt (fun j => (Value.slice q3 Wk.length d3).ownBlock = some j) wr, V = q.1) [0, 1, 2, 3, 4, 5, 6, 7, 8, 9, 10] (by kernel_rfl) rfl rfl (by kernel_rfl) (by kernel_rfl) ⟨⟨wr.drew, HBd.out⟩, rfl⟩ ?_
      repeat (refine Mix.picks_step rfl ?_; go_big_quiet_step (fail))
      refine Mix.picks_nil ?_
      intro inv
      refine sink_one (i := 11) (by kernel_rfl) rfl (by omega) inv (fun K hK => ?_)
      have HKK := Lib.hid hK
      clear hK
      go_simp
      refine HKK.out _ _ ⟨⟨_, (HBd.out.alloc _)⟩, rfl⟩ ?_
      clear HKK inv
      intro hS inv
      (try simp only [Act.put]); (try simp only [List.setIfInBounds_toArray]); (try simp only [List.set_cons_succ]); (try simp only [List.set_cons_zero])
      refine sink_one (i := 12) (by kernel_rfl) rfl (by omega) inv (fun K hK => ?_)
      have HKK := Lib.hid hK
      clear hK
      refine RowT.step ww_T rfl _ _ rfl base (.slice q3 Wk.length d3) Wk.length (rowOf wc2 Wk) rfl (HWO.out.drew.alloc _) (m := 1) (zs := [(t, x)]) rfl (RdG.fresh wr.drew [(t, x)] 83) (fun h => by cases h) (by rw [HLEN.out]; omega) (by have := HBS.out; simp; omega) ?_
      intro v4 w4 hown4 hgr4 hat4
      obtain ⟨p4, c4, hv4⟩ := owns_slice hown4
      subst hv4
      have HF4 : Hid (Fr (fun j => (Value.slice q3 Wk.length d3).ownBlock = some j) wr w4) := Lib.hid (Fr.trans (HBd.out.alloc _) (Fr.of_grown (S := fun j => (Value.slice q3 Wk.length d3).ownBlock = some j) hgr4 (fun i _ e => e)) (fun i hi _ => hi))
      have HN := Lib.hid (HSET.out w4 _ HF4.out hown4 (fun g hg => by rcases hat4 with e | e; exact .inl (e ▸ hg); exact .inr (by rw [e] at hg; injection hg with hg; rw [← hg]; simp)))
      clear hown4 hgr4 hat4
      refine HKK.out _ _ ⟨⟨_, HF4.out⟩, rfl⟩ ?_
      clear HKK inv
      intro hS inv
      (try simp only [Act.put]); (try simp only [List.setIfInBounds_toArray]); (try simp only [List.set_cons_succ]); (try simp only [List.set_cons_zero])
      refine sink_one (i := 13) (by kernel_rfl) rfl (by omega) inv (fun K hK => ?_)
      have HKK := Lib.hid hK
      clear hK
      go_simp
      refine HKK.out _ _ ⟨⟨_, HF4.out⟩, rfl⟩ ?_
      clear HKK inv
      intro hS inv
      (try simp only [Act.put]); (try simp only [List.setIfInBounds_toArray]); (try simp only [List.set_cons_succ]); (try simp only [List.set_cons_zero])
      refine sink_one (i := 14) (by kernel_rfl) rfl (by omega) inv (fun K hK => ?_)
      have HKK := Lib.hid hK
      clear hK
      go_simp
      refine HKK.out _ _ ⟨⟨_, HF4.out⟩, rfl⟩ ?_
      clear HKK inv
      intro hS inv
      (try simp only [Act.put]); (try simp only [List.setIfInBounds_toArray]); (try simp only [List.set_cons_succ]); (try simp only [List.set_cons_zero])
      refine sink_last (by kernel_rfl) rfl (by kernel_rfl) (fun K hK => ?_)
      have HKK := Lib.hid hK
      clear hK
      have cq5 := (HQF.out w4 HF4.out).1
      have fq5 := (HQF.out w4 HF4.out).2
      go_simp
      refine HKK.out _ _ ⟨rfl, ?_⟩
      clear HKK inv hS cq5 fq5 PC QC
      go_wp2
      go_roundw
      case rel => exact ⟨k + 1, by omega, by go_num, HN⟩
      case measure => simp [intOf]; omega
    · obtain rfl : k = n := by omega
      go_wp2
      go_end0
      exact ⟨rfl, HB.out⟩
end Go.Proofs.YtedcpckocedcoaaGreat
