/- arboretumref1.Free: All. -/
import Derived.Test.YtedcpckocedcoaaGreatFRefB
namespace Go.Proofs.YtedcpckocedcoaaGreat
open Go.RowKit

def pgs (Ws : List (Int × Int)) : List Int := Ws.map (·.2)
theorem pgs_el {Ws : List (Int × Int)} {k : Nat} (h : k < Ws.length) : HL.el (pgs Ws) k = (HL.el Ws k).2 := by
  unfold pgs HL.el
  rw [List.getD_eq_getElem?_getD, List.getD_eq_getElem?_getD, List.getElem?_map, List.getElem?_eq_getElem h]
  rfl
/-- A waiting page's cells. -/
theorem wait_cells {w : World} {base g n cap : Nat} {Ws : List (Int × Int)} (h : w.ownsRow base 83 2 (.slice (some ⟨g, 0, none⟩) n cap) n (rowOf wc2 Ws)) (hn : Ws.length = n) (k : Nat) (hk : k < n) :
    w.cell? ⟨g, k * 2, none⟩ = some (.int .i64 (HL.el Ws k).1) ∧ w.cell? ⟨g, k * 2 + 1, none⟩ = some (.int .i64 (HL.el Ws k).2) := by
  subst hn
  have r0 := rowOf_at wc2 wc2_length Ws k 0 hk (by omega)
  have r1 := rowOf_at wc2 wc2_length Ws k 1 hk (by omega)
  refine ⟨?_, ?_⟩
  · rw [h.cellAt (k * 2) (by omega), show k * 2 = k * 2 + 0 by omega, r0]
    rfl
  · rw [h.cellAt (k * 2 + 1) (by omega), r1]
    rfl

set_option maxHeartbeats 4000000 in
set_option maxRecDepth 100000 in
theorem rf_all (rb base : Nat) (lv wv pv : Value) (L : List Int) (Ws : List (Int × Int)) (P : List Int) (w : World) (h : RFI rb base lv wv pv L Ws P w) (hn : L.length + Ws.length ≤ 10000) :
    Calls Tryz.prog 26 #[.pointer (some ⟨rb, 0, none⟩)] w fun e w' => ∃ u, e = .returned u ∧ w'.ownsRow w.heap.size 3 1 u (L.length + Ws.length) (rowOf ncells (insMany L (pgs Ws) Ws.length)) ∧ Below w.heap.size w w' := by
  have H := Lib.hid h
  obtain ⟨q, d, hv⟩ := owns_slice h.lo
  obtain ⟨q2, d2, hv2⟩ := owns_slice h.wo
  subst hv hv2
  have c0 := h.c0
  have hnil : q = none → d = 0 := fun e => by
    rcases h.lo.2 with ⟨h1, _⟩ | ⟨_, _, _, h1, _⟩
    · injection h1
    · injection h1 with h1 _ _
      rw [h1] at e
      cases e
  have HNIL := Lib.hid hnil
  have HRD := Lib.hid (RdG.of_own (f := ncells) h.lo rfl)
  have HPL : Hid ((pgs Ws).length = Ws.length) := Lib.hid (by simp [pgs])
  clear h hnil
  go_enter Tryz.func26, Tryz.ntmps26
  go_wp2_with (at_builtin; refine RowT.app in_T rfl _ _ rfl w.heap.size (.slice none 0 0) 0 [] rfl (World.ownsRow_nil _ _ _ _) (m := L.length) (zs := L) (B := w.heap.size) rfl HRD.out HNIL.out (by omega) (Nat.le_refl _) ?_; intro v3 w3 hown3 hgr3 _; rw [Nat.zero_add, List.nil_append] at hown3; have HB3 := Lib.hid ((Below.refl w.heap.size w).grown hgr3 (Nat.le_refl _) (fun j hj => by cases hj)); have HO3 := Lib.hid hown3; clear hown3 hgr3)
  go_loopw [3, 4] (fun ov iv wr => ∃ k : Nat, k ≤ Ws.length ∧ iv = .int .i64 k ∧ Hid (wr.ownsRow w.heap.size 3 1 ov (L.length + k) (rowOf ncells (insMany L (pgs Ws) k))) ∧ Hid (Below w.heap.size w wr)) (fun _ iv _ => Ws.length - (intOf iv).toNat)
  case atStart => exact ⟨0, Nat.zero_le _, rfl, Lib.hid (by simpa [insMany] using HO3.out), HB3⟩
  case round =>
    clear HO3 HB3
    obtain ⟨k, hk, rfl, HO, HB⟩ := hrel
    have HI := Lib.hid (H.out.below HB.out)
    have c1 := HI.out.c1
    obtain ⟨op, oc, hov⟩ := owns_slice HO.out
    subst hov
    by_cases hlt : k < Ws.length
    · have hltI : (k : Int) < (Ws.length : Int) := by omega
      obtain ⟨g, hq2⟩ := (by
        rcases HI.out.wo.2 with ⟨_, h1⟩ | ⟨g, cap, cur, e, _⟩
        · omega
        · injection e with e1 _ _
          exact ⟨g, e1⟩ : ∃ g, q2 = some ⟨g, 0, none⟩)
      subst hq2
      obtain ⟨_, x1⟩ := wait_cells HI.out.wo rfl k hlt
      have HP := Lib.hid (ref_put_any (HL.el Ws k).2 HO.out (by rw [insMany_length L (pgs Ws) k (by rw [HPL.out]; exact hk)]) (by omega))
      rw [← pgs_el hlt, ← insMany_succ L (pgs Ws) (by rw [HPL.out]; exact hlt)] at HP
      rw [← pgs_el hlt] at x1
      generalize HL.el (pgs Ws) k = x at *
      go_wp2_with fail
      refine HP.out.mono ?_
      rintro e w2 ⟨u, rfl, ho, hb2⟩
      have HO2 : Hid (w2.ownsRow w.heap.size 3 1 u (L.length + (k + 1)) (rowOf ncells (insMany L (pgs Ws) (k + 1)))) := Lib.hid (owns_low ho HB.out.size)
      have HB2 : Hid (Below w.heap.size w w2) := Lib.hid (HB.out.trans (hb2.mono HB.out.size))
      clear ho hb2 HP x1 c1 HI
      go_wp2
      go_roundw
      case rel => exact ⟨k + 1, by omega, by go_num, HO2, HB2⟩
      case measure => simp [intOf]; omega
    · obtain rfl : k = Ws.length := by omega
      clear HI
      go_wp2
      go_ret
      exact ⟨_, rfl, HO.out, HB.out⟩
end Go.Proofs.YtedcpckocedcoaaGreat
