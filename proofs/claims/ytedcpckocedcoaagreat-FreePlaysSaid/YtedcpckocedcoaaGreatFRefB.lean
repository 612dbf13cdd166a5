/- arboretumref1.Free: Back, All. -/
import Derived.Test.YtedcpckocedcoaaGreatFRef
namespace Go.Proofs.YtedcpckocedcoaaGreat
open Go.RowKit

/-- Numbers put one behind the other. -/
def insMany (L ps : List Int) (k : Nat) : List Int := (ps.take k).foldl CL.ins L
theorem insMany_succ (L ps : List Int) {k : Nat} (h : k < ps.length) : insMany L ps (k + 1) = CL.ins (insMany L ps k) (HL.el ps k) := by
  unfold insMany
  rw [el_take h, List.foldl_append]
  rfl
theorem insMany_length (L ps : List Int) : ∀ k, k ≤ ps.length → (insMany L ps k).length = L.length + k
  | 0, _ => by simp [insMany]
  | k + 1, h => by rw [insMany_succ L ps (by omega), CL.ins_length, insMany_length L ps k (by omega)]; omega

/-- As Back goes on. -/
def BackF (rb base : Nat) (lv wv pv : Value) (L ps : List Int) (Ws : List (Int × Int)) (P : List Int) (w : World) (k : Nat) (wr : World) : Prop :=
  ∃ lv', RFI rb base lv' wv pv (insMany L ps k) Ws P wr ∧ Fr (fun j => j = rb) w wr ∧ ∀ g, lv'.ownBlock = some g → lv.ownBlock = some g ∨ w.heap.size ≤ g

set_option maxHeartbeats 4000000 in
set_option maxRecDepth 100000 in
theorem rf_back (rb base : Nat) (lv wv pv : Value) (L ps : List Int) (Ws : List (Int × Int)) (P : List Int) (p : Option Addr) (n c : Nat) (w : World) (h : RFI rb base lv wv pv L Ws P w) (hp : RdI w w.heap.size p n ps) (hpb : ∀ b o, p = some ⟨b, o, none⟩ → 0 < n → b ≠ rb) (hn : L.length + n ≤ 10000) :
    Calls Tryz.prog 15 #[.pointer (some ⟨rb, 0, none⟩), .slice p n c] w fun e w' => e = .returned (.tuple #[]) ∧ BackF rb base lv wv pv L ps Ws P w n w' := by
  have H := Lib.hid h
  have HP := Lib.hid hp
  have HPB := Lib.hid hpb
  have HPL := Lib.hid hp.1
  clear h hp hpb
  go_enter Tryz.func15, Tryz.ntmps15
  go_wp2
  go_loopw [4] (fun iv wr => ∃ k : Nat, k ≤ n ∧ iv = .int .i64 k ∧ Hid (BackF rb base lv wv pv L ps Ws P w k wr)) (fun iv _ => n - (intOf iv).toNat)
  case atStart => exact ⟨0, Nat.zero_le _, rfl, Lib.hid ⟨lv, H.out, Fr.refl _ _, fun _ hg => .inl hg⟩⟩
  case round =>
    obtain ⟨k, hk, rfl, HB⟩ := hrel
    by_cases hlt : k < n
    · obtain ⟨lv', hI, hF, hl'⟩ := HB.out
      obtain ⟨b, o, e, hb, hc⟩ := HP.out.2 (by omega)
      have hcell := (hF.cell (p := ⟨b, o + k, none⟩) hb (HPB.out b o e (by omega))).trans (hc k hlt)
      subst e
      obtain ⟨q, d, hv⟩ := owns_slice hI.lo
      have hcl := cell_lt hcell
      have hql := cell_lt hI.c0
      have HLEN : Hid ((insMany L ps k).length = L.length + k) := Lib.hid (insMany_length L ps k (by rw [HPL.out]; omega))
      subst hv
      have PC : ∀ q2 : Later wr, q2.1.cell? ⟨b, o + k, none⟩ = some (.int .i64 (HL.el ps k)) := fun q2 => (q2.2.cell (p := ⟨b, o + k, none⟩) hcl).trans hcell
      have QC : ∀ q2 : Later wr, q2.1.cell? ⟨rb, 0, none⟩ = some (.slice q (insMany L ps k).length d) := fun q2 => (q2.2.cell (p := ⟨rb, 0, none⟩) hql).trans hI.c0
      have HQF : Hid (∀ V, Below wr.heap.size wr V → V.cell? ⟨rb, 0, none⟩ = some (.slice q (insMany L ps k).length d) ∧ V.frozen? ⟨rb, 0, none⟩ = false) := Lib.hid (fun V hV => ⟨(hV.cell (p := ⟨rb, 0, none⟩) hql).trans hI.c0, ((Fr.of_all (S := fun _ => False) hV).frozen (p := ⟨rb, 0, none⟩) hql (fun h => h)).trans hI.f0⟩)
      have HPUT : Hid (∀ V, Below wr.heap.size wr V → Calls Tryz.prog 17 #[.slice q (insMany L ps k).length d, .int .i64 (HL.el ps k)] V fun e w' => ∃ u, e = .returned u ∧ w'.ownsRow V.heap.size 3 1 u ((insMany L ps k).length + 1) (rowOf ncells (insMany L ps (k + 1))) ∧ Below V.heap.size V w') := Lib.hid (fun V hV => by
        rw [insMany_succ L ps (by rw [HPL.out]; exact hlt)]
        exact ref_put_any (HL.el ps k) ((hI.below hV).lo) rfl (by rw [HLEN.out]; omega))
      have HSET : Hid (∀ (W : World) (u : Value), Below wr.heap.size wr W → W.ownsRow wr.heap.size 3 1 u ((insMany L ps k).length + 1) (rowOf ncells (insMany L ps (k + 1))) → BackF rb base lv wv pv L ps Ws P w (k + 1) (W.setCell ⟨rb, 0, none⟩ u)) := Lib.hid (fun W u hW ho => by
        obtain ⟨e1, e2, e3⟩ := hI.set0 hW ho (by rw [insMany_succ L ps (by rw [HPL.out]; exact hlt), CL.ins_length])
        exact ⟨u, e1, Fr.trans hF e2 (fun i hi _ => hi), fun g hg => .inr (Nat.le_trans hF.size (e3 g hg))⟩)
      have hd0 : Below wr.heap.size wr wr.drew := ((Fr.refl (fun _ => False) wr).drew).below (Nat.le_refl _) (fun _ h => h.elim)
      have HBd := Lib.hid hd0
      clear hI hF hl' hc hcell hcl hd0 HB
      generalize HL.el ps k = x at *
      go_wp2_with fail
      refine Mix.region_mix (n := 12) (m := 4) (fun V => ∃ q : Later wr, V = q.1) [0, 1, 2, 3, 4, 5, 6, 7, 8] (by kernel_rfl) rfl rfl (by kernel_rfl) (by kernel_rfl) ⟨⟨wr.drew, HBd.out⟩, rfl⟩ ?_
      repeat (refine Mix.picks_step rfl ?_; go_big_quiet_step (fail))
      refine Mix.picks_nil ?_
      intro inv
      refine sink_one (i := 9) (by kernel_rfl) rfl (by omega) inv (fun K hK => ?_)
      have HKK := Lib.hid hK
      clear hK
      go_simp
      go_at_call 17
      refine (HPUT.out _ HBd.out).mono ?_
      rintro e W2 ⟨u, rfl, ho, hb2⟩
      obtain ⟨p5, c5, hv5⟩ := owns_slice ho
      subst hv5
      have HB2 : Hid (Below wr.heap.size wr W2) := Lib.hid (HBd.out.trans hb2)
      have HN := Lib.hid (HSET.out W2 _ HB2.out ho)
      clear ho hb2
      refine HKK.out _ _ ⟨⟨_, HB2.out⟩, rfl⟩ ?_
      clear HKK inv
      intro hS inv
      (try simp only [Act.put]); (try simp only [List.setIfInBounds_toArray]); (try simp only [List.set_cons_succ]); (try simp only [List.set_cons_zero])
      refine sink_one (i := 10) (by kernel_rfl) rfl (by omega) inv (fun K hK => ?_)
      have HKK := Lib.hid hK
      clear hK
      go_simp
      refine HKK.out _ _ ⟨⟨_, HB2.out⟩, rfl⟩ ?_
      clear HKK inv
      intro hS inv
      (try simp only [Act.put]); (try simp only [List.setIfInBounds_toArray]); (try simp only [List.set_cons_succ]); (try simp only [List.set_cons_zero])
      refine sink_one (i := 11) (by kernel_rfl) rfl (by omega) inv (fun K hK => ?_)
      have HKK := Lib.hid hK
      clear hK
      go_simp
      refine HKK.out _ _ ⟨⟨_, HB2.out⟩, rfl⟩ ?_
      clear HKK inv
      intro hS inv
      (try simp only [Act.put]); (try simp only [List.setIfInBounds_toArray]); (try simp only [List.set_cons_succ]); (try simp only [List.set_cons_zero])
      refine sink_last (by kernel_rfl) rfl (by kernel_rfl) (fun K hK => ?_)
      have HKK := Lib.hid hK
      clear hK
      have cq5 := (HQF.out W2 HB2.out).1
      have fq5 := (HQF.out W2 HB2.out).2
      go_simp
      refine HKK.out _ _ ⟨rfl, ?_⟩
      clear HKK inv hS cq5 fq5 PC QC
      go_wp2
      go_roundw
      case rel => exact ⟨k + 1, by omega, by go_num, HN⟩
      case measure => simp [intOf]; omega
    · obtain rfl : k = n := by omega
      go_wp2
      go_end0
      exact ⟨rfl, HB.out⟩
end Go.Proofs.YtedcpckocedcoaaGreat
