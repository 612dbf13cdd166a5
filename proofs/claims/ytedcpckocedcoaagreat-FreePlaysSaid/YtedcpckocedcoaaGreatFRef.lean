/- arboretumref1.Free: what it holds; Sorted, Take. -/
import Derived.Test.YtedcpckocedcoaaGreatPutI
import Derived.Test.YtedcpckocedcoaaGreatGApp
import Derived.Test.YtedcpckocedcoaaGreatB1
namespace Go.Proofs.YtedcpckocedcoaaGreat
open Go.RowKit

theorem owns_low {w : World} {base base' n : Nat} {e : TypeId} {size : Nat} {v : Value} {xs : List Value} (h : w.ownsRow base e size v n xs) (hb : base' ≤ base) : w.ownsRow base' e size v n xs := by
  refine ⟨h.1, ?_⟩
  rcases h.2 with h | ⟨g, cap, cur, hv, hg, h2⟩
  · exact .inl h
  · exact .inr ⟨g, cap, cur, hv, Nat.le_trans hb hg, h2⟩

theorem owns_room {w : World} {base g n cap size : Nat} {e : TypeId} {xs : List Value} (h : w.ownsRow base e size (.slice (some ⟨g, 0, none⟩) n cap) n xs) : n ≤ cap := by
  rcases h.2 with ⟨h, _⟩ | ⟨_, _, _, h, _, _, hc, _, _⟩
  · cases h
  · injection h with _ _ h
    subst h
    exact hc

/-- Put into a row that is the call's own, empty or not. -/
theorem ref_put_any {base n : Nat} {v : Value} {zs : List Int} (x : Int) {w : World} (ho : w.ownsRow base 3 1 v n (rowOf ncells zs)) (hz : zs.length = n) (hn : n ≤ 10000) :
    Calls Tryz.prog 17 #[v, .int .i64 x] w fun e w' => ∃ u, e = .returned u ∧ w'.ownsRow w.heap.size 3 1 u (n + 1) (rowOf ncells (CL.ins zs x)) ∧ Below w.heap.size w w' := by
  rcases ho.2 with ⟨rfl, h⟩ | ⟨g, cap, cur, rfl, hb, hg, hc, hm, _⟩
  · subst h
    obtain rfl := List.eq_nil_of_length_eq_zero hz
    exact ref_put_nil x w
  · exact ref_put g 0 n cap zs x w (RdI.of_own ho hz) hn hc hm

theorem el_take {l : List Int} {k : Nat} (h : k < l.length) : l.take (k + 1) = l.take k ++ [HL.el l k] := by
  rw [List.take_add_one, List.getElem?_eq_getElem h]
  congr 1
  unfold HL.el
  rw [List.getD_eq_getElem?_getD, List.getElem?_eq_getElem h]
  rfl

set_option maxHeartbeats 2000000 in
set_option maxRecDepth 100000 in
theorem ref_sorted (p : Option Addr) (n c : Nat) (zs : List Int) (w : World) (h : RdI w w.heap.size p n zs) (hn : n ≤ 10000) :
    Calls Tryz.prog 8 #[.slice p n c] w fun e w' => ∃ u, e = .returned u ∧ w'.ownsRow w.heap.size 3 1 u n (rowOf ncells (CL.srt zs)) ∧ Below w.heap.size w w' := by
  have H := Lib.hid h
  have HL0 := Lib.hid h.1
  clear h
  go_enter Tryz.func8, Tryz.ntmps8
  go_wp2
  go_loopw [3, 4] (fun ov iv wr => ∃ k : Nat, k ≤ n ∧ iv = .int .i64 k ∧ Hid (wr.ownsRow w.heap.size 3 1 ov k (rowOf ncells (CL.srt (zs.take k)))) ∧ Hid (Below w.heap.size w wr)) (fun _ iv _ => n - (intOf iv).toNat)
  case atStart => exact ⟨0, Nat.zero_le _, rfl, Lib.hid (by rw [show CL.srt (zs.take 0) = [] by simp [CL.srt]]; exact World.ownsRow_nil _ _ _ _), Lib.hid (Below.refl _ _)⟩
  case round =>
    obtain ⟨k, hk, rfl, HO, HB⟩ := hrel
    obtain ⟨op, oc, hov⟩ := owns_slice HO.out
    subst hov
    by_cases hlt : k < n
    · obtain ⟨b, o, e, hb, hc⟩ := (H.out.below HB.out).2 (by omega)
      have hcell := hc k hlt
      subst e
      clear hc
      have HP := Lib.hid (ref_put_any (HL.el zs k) HO.out (by rw [(CL.srt_perm _).length_eq, List.length_take, HL0.out]; omega) (by omega))
      have HS : Hid (CL.srt (zs.take (k + 1)) = CL.ins (CL.srt (zs.take k)) (HL.el zs k)) := Lib.hid (by rw [el_take (by rw [HL0.out]; exact hlt), CL.srt_ins])
      generalize HL.el zs k = x at *
      go_wp2_with fail
      refine HP.out.mono ?_
      rintro e w2 ⟨u, rfl, ho, hb2⟩
      have HO2 : Hid (w2.ownsRow w.heap.size 3 1 u (k + 1) (rowOf ncells (CL.srt (zs.take (k + 1))))) := Lib.hid (by rw [HS.out]; exact owns_low ho HB.out.size)
      have HB2 : Hid (Below w.heap.size w w2) := Lib.hid (HB.out.trans (hb2.mono HB.out.size))
      clear ho hb2 HP HS
      go_wp2
      go_roundw
      case rel => exact ⟨k + 1, by omega, by go_num, HO2, HB2⟩
      case measure => simp [intOf]; omega
    · obtain rfl : k = n := by omega
      go_wp2
      go_ret
      refine ⟨_, rfl, ?_, HB.out⟩
      have e := HO.out
      rwa [List.take_of_length_le (by rw [HL0.out]; exact Nat.le_refl _)] at e

/-! ### What it holds -/
def wc2 (x : Int × Int) : List Value := [.int .i64 x.1, .int .i64 x.2]
theorem wc2_length (x : Int × Int) : (wc2 x).length = 2 := rfl
theorem info_refwait : (Tryz.prog.info? 83).map (fun i => (i.zero, i.size, i.bytes)) = some (some (.agg #[.int .i64 0, .int .i64 0]), 2, 16) := by kernel_rfl
theorem ww_T : RowT Tryz.prog 29 83 wc2 2 16 :=
  RowT.of Tryz.underlying29 info_refwait rfl (by omega) wc2_length (fun x u hu => by
    simp only [wc2, List.mem_cons, List.not_mem_nil, or_false] at hu
    rcases hu with rfl | rfl <;> rfl) (by omega)
theorem in_T : RowT Tryz.prog 22 3 ncells 1 8 :=
  RowT.of Tryz.underlying22 info_int rfl (by omega) ncells_length (fun x u hu => by
    simp only [ncells, List.mem_cons, List.not_mem_nil, or_false] at hu
    rcases hu with rfl; rfl) (by omega)

structure RFI (rb base : Nat) (lv wv pv : Value) (L : List Int) (Ws : List (Int × Int)) (P : List Int) (w : World) : Prop where
  c0 : w.cell? ⟨rb, 0, none⟩ = some lv
  c1 : w.cell? ⟨rb, 1, none⟩ = some wv
  c2 : w.cell? ⟨rb, 2, none⟩ = some pv
  f0 : w.frozen? ⟨rb, 0, none⟩ = false
  f1 : w.frozen? ⟨rb, 1, none⟩ = false
  f2 : w.frozen? ⟨rb, 2, none⟩ = false
  lo : w.ownsRow base 3 1 lv L.length (rowOf ncells L)
  wo : w.ownsRow base 83 2 wv Ws.length (rowOf wc2 Ws)
  po : w.ownsRow base 3 1 pv P.length (rowOf ncells P)
  ln : lv.ownBlock ≠ some rb
  wn : wv.ownBlock ≠ some rb
  pn : pv.ownBlock ≠ some rb
  bs : base ≤ w.heap.size
  bb : base ≤ rb

def rfF (rb : Nat) (lv wv pv : Value) (k : Nat) : Prop := k = rb ∨ lv.ownBlock = some k ∨ wv.ownBlock = some k ∨ pv.ownBlock = some k

section
variable {rb base : Nat} {lv wv pv : Value} {L : List Int} {Ws : List (Int × Int)} {P : List Int} {w w' : World}
theorem RFI.keep (h : RFI rb base lv wv pv L Ws P w) {S : Nat → Prop} (hF : Fr S w w') (hS : ∀ k, rfF rb lv wv pv k → ¬ S k) : RFI rb base lv wv pv L Ws P w' := by
  have hlt := cell_lt h.c0
  have h1 : ¬ S rb := hS rb (.inl rfl)
  exact ⟨(hF.cell (p := ⟨rb, 0, none⟩) hlt h1).trans h.c0, (hF.cell (p := ⟨rb, 1, none⟩) hlt h1).trans h.c1, (hF.cell (p := ⟨rb, 2, none⟩) hlt h1).trans h.c2,
    (hF.frozen (p := ⟨rb, 0, none⟩) hlt h1).trans h.f0, (hF.frozen (p := ⟨rb, 1, none⟩) hlt h1).trans h.f1, (hF.frozen (p := ⟨rb, 2, none⟩) hlt h1).trans h.f2,
    hF.owns h.lo (fun g hg => hS g (.inr (.inl hg))), hF.owns h.wo (fun g hg => hS g (.inr (.inr (.inl hg)))), hF.owns h.po (fun g hg => hS g (.inr (.inr (.inr hg)))), h.ln, h.wn, h.pn, Nat.le_trans h.bs hF.size, h.bb⟩
theorem RFI.below (h : RFI rb base lv wv pv L Ws P w) (hb : Below w.heap.size w w') : RFI rb base lv wv pv L Ws P w' := h.keep (Fr.of_all (S := fun _ => False) hb) (fun _ _ h => h)
theorem RFI.lt (h : RFI rb base lv wv pv L Ws P w) : ∀ k, rfF rb lv wv pv k → k < w.heap.size := by
  rintro k (rfl | e | e | e)
  · exact cell_lt h.c0
  · exact (h.lo.lt k e).2
  · exact (h.wo.lt k e).2
  · exact (h.po.lt k e).2

/-- Another row of pages. -/
theorem RFI.set0 {W : World} {lv' : Value} {L' : List Int} {n : Nat} (h : RFI rb base lv wv pv L Ws P w) (hb : Below w.heap.size w W) (ho : W.ownsRow w.heap.size 3 1 lv' n (rowOf ncells L')) (hl : L'.length = n) :
    RFI rb base lv' wv pv L' Ws P (W.setCell ⟨rb, 0, none⟩ lv') ∧ Fr (fun k => k = rb) w (W.setCell ⟨rb, 0, none⟩ lv') ∧ ∀ g, lv'.ownBlock = some g → w.heap.size ≤ g := by
  subst hl
  have hk := h.below hb
  have hrb : rb < w.heap.size := cell_lt h.c0
  have hF : Fr (fun k => k = rb) W (W.setCell ⟨rb, 0, none⟩ lv') := (Fr.refl (fun k => k = rb) W).setCell (p := ⟨rb, 0, none⟩) (fun _ => rfl) _
  have hne : ∀ g, lv'.ownBlock = some g → g ≠ rb := fun g hg e => by have := (ho.lt g hg).1; omega
  have hoth := Others.set rb 0 W lv'
  have hs := hb.size
  refine ⟨⟨cell_set_same _ _ _ _ hk.c0, (hoth 1 (by omega)).1.trans hk.c1, (hoth 2 (by omega)).1.trans hk.c2, by rw [frozen_set]; exact hk.f0, by rw [frozen_set]; exact hk.f1, by rw [frozen_set]; exact hk.f2, owns_low (hF.owns ho (fun g hg => hne g hg)) h.bs, hF.owns hk.wo (fun g hg e => h.wn (by rw [hg, e])), hF.owns hk.po (fun g hg e => h.pn (by rw [hg, e])), fun e => hne rb e rfl, h.wn, h.pn, Nat.le_trans h.bs (Nat.le_trans hs hF.size), h.bb⟩,
    Fr.trans (Fr.of_all (S := fun k => k = rb) hb) hF (fun i hi _ => hi), fun g hg => (ho.lt g hg).1⟩
end

def TakeF (rb base : Nat) (wv pv : Value) (L : List Int) (Ws : List (Int × Int)) (P : List Int) (w : World) (e : Ending) (w' : World) : Prop :=
  ∃ lv', e = .returned (.tuple #[.int .i64 (HL.el L 0), .bool true]) ∧ RFI rb base lv' wv pv (L.drop 1) Ws P w' ∧ Fr (fun k => k = rb) w w' ∧ ∀ g, lv'.ownBlock = some g → w.heap.size ≤ g

set_option maxHeartbeats 4000000 in
set_option maxRecDepth 100000 in
theorem rf_take_none (rb base : Nat) (lv wv pv : Value) (Ws : List (Int × Int)) (P : List Int) (w : World) (h : RFI rb base lv wv pv [] Ws P w) :
    Calls Tryz.prog 11 #[.pointer (some ⟨rb, 0, none⟩)] w fun e w' => e = .returned (.tuple #[.int .i64 0, .bool false]) ∧ w' = w := by
  obtain ⟨p, c, hv⟩ := owns_slice h.lo
  have c0 := h.c0
  rw [hv] at c0
  clear h
  simp only [List.length_nil] at c0
  go_enter Tryz.func11, Tryz.ntmps11
  go_wp2
  go_ret2
  exact ⟨rfl, rfl⟩

set_option maxHeartbeats 4000000 in
set_option maxRecDepth 100000 in
theorem rf_take (rb base : Nat) (lv wv pv : Value) (L : List Int) (Ws : List (Int × Int)) (P : List Int) (w : World) (h : RFI rb base lv wv pv L Ws P w) (h0 : 0 < L.length) (hn : L.length ≤ 10000) :
    Calls Tryz.prog 11 #[.pointer (some ⟨rb, 0, none⟩)] w (TakeF rb base wv pv L Ws P w) := by
  have H := Lib.hid h
  obtain ⟨g, c, hv, _, hgl, _⟩ := owns_len h.lo h0
  have c0 := h.c0
  rw [hv] at c0
  have hrd := RdI.of_own (by rw [← hv]; exact h.lo) rfl
  have HG := Lib.hid ((RdG.of_own (f := ncells) (by rw [← hv]; exact h.lo) rfl : RdG ncells w w.heap.size (some ⟨g, 0, none⟩) L.length L).drops ncells_length (k := 1) h0)
  obtain ⟨b, o, e, _, hc⟩ := hrd.2 h0
  injection e with e
  injection e with e1 e2 _
  subst e1 e2
  have x0 := hc 0 h0
  have hnc : L.length ≤ c := owns_room (g := g) (by rw [← hv]; exact h.lo)
  have hq0 : ((L.length : Int) == 0) = false := by rw [beq_eq_false_iff_ne]; omega
  have hf0 := h.f0
  have hlr := cell_lt c0
  clear h hc hrd
  have h0I : (1 : Int) ≤ (L.length : Int) := by omega
  have h0I2 : (0 : Int) < (L.length : Int) := by omega
  have HC : Hid (∀ V, Below w.heap.size w V → V.cell? ⟨rb, 0, none⟩ = some (.slice (some ⟨g, 0, none⟩) L.length c) ∧ V.frozen? ⟨rb, 0, none⟩ = false) := Lib.hid (fun V hV => ⟨(hV.cell (p := ⟨rb, 0, none⟩) hlr).trans c0, ((Fr.of_all (S := fun _ => False) hV).frozen (p := ⟨rb, 0, none⟩) hlr (fun h => h)).trans hf0⟩)
  clear hv
  by_cases hL1 : L.length = 1
  · have HNIL : Hid (TakeF rb base wv pv L Ws P w (.returned (.tuple #[.int .i64 (HL.el L 0), .bool true])) (w.setCell ⟨rb, 0, none⟩ (.slice none 0 0))) := Lib.hid (by
      have hd : L.drop 1 = [] := List.drop_eq_nil_of_le (by omega)
      obtain ⟨e1, e2, e3⟩ := H.out.set0 (L' := L.drop 1) (lv' := .slice none 0 0) (n := 0) (Below.refl _ w) (by rw [hd]; exact World.ownsRow_nil _ _ _ _) (by rw [hd]; rfl)
      exact ⟨_, rfl, e1, e2, e3⟩)
    by_cases hc1 : c = 1
    · subst hc1
      go_enter Tryz.func11, Tryz.ntmps11
      go_wp2
      go_ret2
      exact HNIL.out
    · have h1c : 1 ≤ c := by omega
      go_enter Tryz.func11, Tryz.ntmps11
      go_wp2
      go_ret2
      exact HNIL.out
  · have hc1 : ¬ c = 1 := by omega
    have h1c : 1 ≤ c := by omega
    have hl2 : ¬ L.length - 1 = 0 := by omega
    have hl3 : L.length - 1 ≤ 1000000 := by omega
    go_enter Tryz.func11, Tryz.ntmps11
    go_wp2_with (at_builtin; refine RowT.app in_T rfl _ _ rfl w.heap.size (.slice none 0 0) 0 [] rfl (World.ownsRow_nil _ _ _ _) (m := L.length - 1) (zs := L.drop 1) (B := w.heap.size) rfl HG.out (fun h => by cases h) (by omega) (Nat.le_refl _) ?_; intro v3 w3 hown3 hgr3 _; rw [Nat.zero_add, List.nil_append] at hown3; obtain ⟨p3, c3, hv3⟩ := owns_slice hown3; subst hv3; have HB3 := Lib.hid ((Below.refl w.heap.size w).grown hgr3 (Nat.le_refl _) (fun j hj => by cases hj)); have HO3 := Lib.hid hown3; have c03 := (HC.out w3 HB3.out).1; have f03 := (HC.out w3 HB3.out).2; clear hown3 hgr3)
    go_ret2
    obtain ⟨e1, e2, e3⟩ := H.out.set0 (L' := L.drop 1) HB3.out HO3.out (by simp)
    exact ⟨_, rfl, e1, e2, e3⟩
end Go.Proofs.YtedcpckocedcoaaGreat
