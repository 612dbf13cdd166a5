/- arboretumref20.Queue: Add to an empty one, Ready, Clear. -/
import Derived.Test.YtjpmebfegpmccaaGreatRQ
import Derived.Test.YtjpmebfegpmccaaGreatReady
import Derived.Test.YtjpmebfegpmccaaGreatBkI
namespace Go.Proofs.YtjpmebfegpmccaaGreat
open Go.RowKit

set_option maxHeartbeats 8000000 in
set_option maxRecDepth 100000 in
theorem ref_qadd_nil (rb base : Nat) (x : Rd) (w : World) (h : RQI rb base (.slice none 0 0) [] w) :
    Calls Tryz.prog 7 #[.pointer (some ⟨rb, 0, none⟩), rv x] w fun e w' => e = .returned (.tuple #[]) ∧ ∃ v', RQI rb base v' (insD [] x) w' ∧ Fr (fun k => k = rb) w w' ∧ ∀ g, v'.ownBlock = some g → w.heap.size ≤ g := by
  obtain ⟨x1, x2, x3⟩ := x
  have H := Lib.hid h
  obtain ⟨hcq, _, _, _, _, _⟩ := h
  have hlq := cell_lt hcq
  generalize hW0 : w.alloc (.cells #[.int .i64 x1, .int .i64 x2, .int .i64 x3] 55) = W0
  have HB0 : Hid (Below w.heap.size w W0) := Lib.hid (by rw [← hW0]; exact (Below.refl _ w).alloc (Nat.le_refl _) _)
  have hz0 : W0.heap.size = w.heap.size + 1 := by rw [← hW0]; simp
  have HX0 : Hid (W0.cell? ⟨w.heap.size, 0, none⟩ = some (.int .i64 x1) ∧ W0.cell? ⟨w.heap.size, 1, none⟩ = some (.int .i64 x2) ∧ W0.cell? ⟨w.heap.size, 2, none⟩ = some (.int .i64 x3)) := Lib.hid (by subst hW0; exact ⟨by go_simp, by go_simp, by go_simp⟩)
  have HW0 := Lib.hid hW0
  have HQ := Lib.hid hcq
  clear hcq hW0
  go_enter Tryz.func7, Tryz.ntmps7
  go_wp2
  rw [HW0.out]
  go_loopw [4] (fun iv wr => iv = .int .i64 0 ∧ Hid (Below W0.heap.size W0 wr)) (fun _ _ => 0)
  case atStart => exact ⟨rfl, Lib.hid (Below.refl _ _)⟩
  case round =>
    obtain ⟨rfl, HB⟩ := hrel
    have hsz := HB.out.size
    have hI : RQI rb base (.slice none 0 0) [] wr := H.out.below (HB0.out.trans (HB.out.mono HB0.out.size))
    have cq : ∀ q : Later wr, q.1.cell? ⟨rb, 0, none⟩ = some (.slice none 0 0) := fun q => (hI.below q.2).1
    have HI := Lib.hid hI
    have FIN : Hid (∀ W, Below wr.heap.size wr W → Below W0.heap.size W0 W) := Lib.hid (fun W hW => HB.out.trans (hW.mono HB.out.size))
    clear hI hsz HB
    go_wp2_with fail
    refine wp_region_later (by kernel_rfl) (by kernel_rfl) ?_
    repeat (go_big_quiet_step (fail))
    refine wpQuiet_nil ?_
    intro W hw'
    obtain ⟨⟨W2, hq⟩, hw''⟩ := hw'
    have hw3 : W = W2 := hw''
    subst hw3
    have hB := FIN.out _ hq
    clear hw'' hq cq FIN HI
    go_wp2_with fail
    have hs := hB.size
    have cq : W.cell? ⟨rb, 0, none⟩ = some (.slice none 0 0) := (hB.cell (p := ⟨rb, 0, none⟩) (by show rb < _; omega)).trans ((HB0.out.cell (p := ⟨rb, 0, none⟩) hlq).trans HQ.out)
    have b0 : W.cell? ⟨w.heap.size, 0, none⟩ = some (.int .i64 x1) := (hB.cell (p := ⟨w.heap.size, 0, none⟩) (by show w.heap.size < _; omega)).trans HX0.out.1
    have b1 : W.cell? ⟨w.heap.size, 1, none⟩ = some (.int .i64 x2) := (hB.cell (p := ⟨w.heap.size, 1, none⟩) (by show w.heap.size < _; omega)).trans HX0.out.2.1
    have b2 : W.cell? ⟨w.heap.size, 2, none⟩ = some (.int .i64 x3) := (hB.cell (p := ⟨w.heap.size, 2, none⟩) (by show w.heap.size < _; omega)).trans HX0.out.2.2
    have hlr := cell_lt cq
    have hlb := cell_lt b0
    have hbw : Below w.heap.size w W := HB0.out.trans (hB.mono HB0.out.size)
    have hI : RQI rb base (.slice none 0 0) [] W := H.out.below hbw
    have hd0 : Below W.heap.size W W.drew := ((Fr.refl (fun _ => False) W).drew).below (Nat.le_refl _) (fun _ h => h.elim)
    have HBd := Lib.hid hd0
    have HBW := Lib.hid hbw
    have HFZ : Hid (∀ V, Below W.heap.size W V → V.frozen? ⟨rb, 0, none⟩ = false) := Lib.hid (fun V hV => ((Fr.of_all (S := fun _ => False) hV).frozen (p := ⟨rb, 0, none⟩) hlr (fun h => h)).trans hI.2.1)
    have HC : Hid (∀ V, Below W.heap.size W V → V.cell? ⟨rb, 0, none⟩ = some (.slice none 0 0) ∧ V.cell? ⟨w.heap.size, 0, none⟩ = some (.int .i64 x1) ∧ V.cell? ⟨w.heap.size, 1, none⟩ = some (.int .i64 x2) ∧ V.cell? ⟨w.heap.size, 2, none⟩ = some (.int .i64 x3)) := Lib.hid (fun V hV =>
      ⟨(hV.cell (p := ⟨rb, 0, none⟩) hlr).trans cq, (hV.cell (p := ⟨w.heap.size, 0, none⟩) hlb).trans b0, (hV.cell (p := ⟨w.heap.size, 1, none⟩) hlb).trans b1, (hV.cell (p := ⟨w.heap.size, 2, none⟩) hlb).trans b2⟩)
    clear hI hd0 hbw hB hs HX0 HQ
    refine wp_ends rfl ?_
    go_region_law (first
      | (refine RowT.step rr_T rfl _ _ rfl W.heap.size (.slice none 0 0) 0 [] rfl (World.ownsRow_nil _ _ _ _) (m := 0) (zs := []) (B := W.heap.size) rfl ⟨rfl, fun h => absurd h (by omega)⟩ (fun _ => rfl) (by omega) (by simp) ?_; intro v3 w3 hown3 hgr3 _; have H3 := Lib.hid (rg_one (B := W.heap.size) (w := W) (by first | exact HBd.out | exact HBd.out.alloc (Nat.le_refl _) _) hown3 hgr3); obtain ⟨cq3, b03, b13, b23⟩ := HC.out w3 H3.out.2; have hl3 := cell_lt cq3; have hm3 := cell_lt b03; (first | (have HX3 := Lib.hid (RdG.far (rd_new3 W.drew x1 x2 x3 55) hgr3)) | skip); clear hown3 hgr3)
      | (refine RowT.step rr_T rfl _ _ rfl W.heap.size v3 0 (rowOf rcells []) rfl (by first | exact H3.out.1 | exact H3.out.1.alloc _) (m := 1) (zs := [(x1, x2, x3)]) rfl (by first | exact rd_new3 w3 x1 x2 x3 _ | exact HX3.out) (fun h => by cases h) (by omega) (by have := H3.out.2.size; first | omega | (simp; omega)) ?_; intro v4 w4 hown4 hgr4 _; have H4 := Lib.hid (rg_two H3.out.1 H3.out.2 hown4 (by first | exact .inl hgr4 | exact .inr ⟨_, hgr4⟩)); obtain ⟨cq4, b04, b14, b24⟩ := HC.out w4 H4.out.2; have hl4 := cell_lt cq4; clear hown4 hgr4)
      | (refine RowT.step rr_T rfl _ _ rfl W.heap.size v4 (0 + 1) (rowOf rcells [] ++ rowOf rcells [(x1, x2, x3)]) rfl H4.out.1 (m := 0) (zs := []) (B := W.heap.size) rfl ⟨rfl, fun h => absurd h (by omega)⟩ (fun _ => rfl) (by omega) (H4.out.2.size) ?_; intro v5 w5 hown5 hgr5 _; obtain ⟨p5, c5, hv5⟩ := owns_slice hown5; subst hv5; have H5 := Lib.hid (rg_two (n := 0 + 1) H4.out.1 H4.out.2 hown5 (.inl hgr5)); have cq5 := (HC.out w5 H5.out.2).1; have fq5 := HFZ.out w5 H5.out.2; clear hown5 hgr5))
    all_goals
      obtain ⟨h1, h2, h3⟩ := rq_end (L' := insD [] (x1, x2, x3)) (n5 := 1) H.out HBW.out H5.out.2 (by have e := H5.out.1; simpa [rowOf, insD] using e) (by rw [insD_length]; rfl) (by omega)
      exact ⟨rfl, rfl, rfl, _, h1, h2, h3⟩

theorem ref_qadd_any (rb base : Nat) (v : Value) (L : List Rd) (x : Rd) (w : World) (h : RQI rb base v L w) (hn : L.length ≤ 10000) :
    Calls Tryz.prog 7 #[.pointer (some ⟨rb, 0, none⟩), rv x] w fun e w' => e = .returned (.tuple #[]) ∧ ∃ v', RQI rb base v' (insD L x) w' ∧ Fr (fun k => k = rb) w w' ∧ ∀ g, v'.ownBlock = some g → w.heap.size ≤ g := by
  rcases Nat.eq_zero_or_pos L.length with h0 | h0
  · have e := h.2.2.2.2.2 h0
    obtain rfl := List.eq_nil_of_length_eq_zero h0
    subst e
    exact ref_qadd_nil rb base x w h
  · rcases h.2.2.1.2 with ⟨_, h1⟩ | ⟨g, cap, cur, rfl, _⟩
    · omega
    · exact ref_qadd rb base g _ cap L x w h hn h0
/-- What Ready leaves. -/
def ReadyR (rb base : Nat) (L : List Rd) (pick : Rd → Bool) (w : World) (e : Ending) (w' : World) : Prop :=
  ∃ ov lv, e = .returned ov ∧ w'.ownsRow w.heap.size 3 1 ov (L.filter pick).length (rowOf ncells ((L.filter pick).map (·.1))) ∧ RQI rb base lv (L.filter fun x => !pick x) w' ∧ Fr (fun k => k = rb) w w' ∧ ∀ g, lv.ownBlock = some g → w.heap.size ≤ g

/-- As Ready goes on. -/
structure RyI (w : World) (L : List Rd) (pick : Rd → Bool) (k : Nat) (ov lv : Value) (wr : World) : Prop where
  o : wr.ownsRow w.heap.size 3 1 ov ((L.take k).filter pick).length (rowOf ncells (((L.take k).filter pick).map (·.1)))
  l : wr.ownsRow w.heap.size 55 3 lv ((L.take k).filter fun x => !pick x).length (rowOf rcells ((L.take k).filter fun x => !pick x))
  nil : ((L.take k).filter fun x => !pick x).length = 0 → lv = .slice none 0 0
  b : Below w.heap.size w wr

theorem take_el {α : Type} [Inhabited α] {L : List α} {k : Nat} (h : k < L.length) : L.take (k + 1) = L.take k ++ [HL.el L k] := by
  rw [List.take_add_one, List.getElem?_eq_getElem h]
  congr 1
  unfold HL.el
  rw [List.getD_eq_getElem?_getD, List.getElem?_eq_getElem h]
  rfl
theorem RyI.yes {w wr w' : World} {L : List Rd} {pick : Rd → Bool} {k : Nat} {ov lv ov' : Value} {o : Obj} (h : RyI w L pick k ov lv wr) (hk : k < L.length) (hp : pick (HL.el L k) = true) (ho : w'.ownsRow w.heap.size 3 1 ov' (((L.take k).filter pick).length + 1) (rowOf ncells (((L.take k).filter pick).map (·.1)) ++ rowOf ncells [(HL.el L k).1])) (hg : (wr.alloc o).grownBy w' ov.ownBlock) :
    RyI w L pick (k + 1) ov' lv w' := by
  have hs := h.b.size
  refine ⟨?_, ?_, ?_, (h.b.alloc hs o).grown hg (by simp; omega) (fun j hj => (h.o.lt j hj).1)⟩
  · rw [take_el hk, List.filter_append, List.filter_cons_of_pos hp, List.length_append, List.map_append, rowOf_append]
    exact ho
  · rw [take_el hk, List.filter_append, List.filter_cons_of_neg (by simp [hp]), List.filter_nil, List.append_nil]
    exact ((Fr.of_grown (S := fun i => ov.ownBlock = some i) hg (fun i _ e => e)).owns (h.l.alloc _) (fun g hg2 e => owns_apart h.o h.l (by decide) e hg2))
  · rw [take_el hk, List.filter_append, List.filter_cons_of_neg (by simp [hp]), List.filter_nil, List.append_nil]
    exact h.nil
theorem RyI.no {w wr w' : World} {L : List Rd} {pick : Rd → Bool} {k : Nat} {ov lv lv' : Value} {o : Obj} (h : RyI w L pick k ov lv wr) (hk : k < L.length) (hp : pick (HL.el L k) = false) (ho : w'.ownsRow w.heap.size 55 3 lv' (((L.take k).filter fun x => !pick x).length + 1) (rowOf rcells ((L.take k).filter fun x => !pick x) ++ rowOf rcells [HL.el L k])) (hg : (wr.alloc o).grownBy w' lv.ownBlock) :
    RyI w L pick (k + 1) ov lv' w' := by
  have hs := h.b.size
  refine ⟨?_, ?_, ?_, (h.b.alloc hs o).grown hg (by simp; omega) (fun j hj => (h.l.lt j hj).1)⟩
  · rw [take_el hk, List.filter_append, List.filter_cons_of_neg (by simp [hp]), List.filter_nil, List.append_nil]
    exact ((Fr.of_grown (S := fun i => lv.ownBlock = some i) hg (fun i _ e => e)).owns (h.o.alloc _) (fun g hg2 e => owns_apart h.l h.o (by decide) e hg2))
  · rw [take_el hk, List.filter_append, List.filter_cons_of_pos (by simp [hp]), List.length_append, rowOf_append]
    exact ho
  · rw [take_el hk, List.filter_append, List.filter_cons_of_pos (by simp [hp]), List.length_append]
    intro h
    simp at h

set_option maxHeartbeats 8000000 in
set_option maxRecDepth 100000 in
theorem ref_qready (rb base : Nat) (v : Value) (L : List Rd) (a b : Int) (w : World) (h : RQI rb base v L w) (hn : L.length ≤ 10000) :
    Calls Tryz.prog 11 #[.pointer (some ⟨rb, 0, none⟩), .int .i64 a, .int .i64 b] w (ReadyR rb base L (pickR a b) w) := by
  have H := Lib.hid h
  obtain ⟨vp, vc, hvv⟩ := owns_slice h.2.2.1
  subst hvv
  have hlq := cell_lt h.1
  clear h
  go_enter Tryz.func11, Tryz.ntmps11
  go_wp2
  go_loopw [7, 8, 9] (fun ov lv iv wr => ∃ k : Nat, k ≤ L.length ∧ iv = .int .i64 k ∧ Hid (RyI w L (pickR a b) k ov lv wr)) (fun _ _ iv _ => L.length - (intOf iv).toNat)
  case atStart => exact ⟨0, Nat.zero_le _, rfl, Lib.hid ⟨World.ownsRow_nil _ _ _ _, World.ownsRow_nil _ _ _ _, fun _ => rfl, Below.refl _ _⟩⟩
  case round =>
    obtain ⟨k, hk, rfl, hR⟩ := hrel
    have HQ : Hid (RQI rb base (.slice vp L.length vc) L wr) := Lib.hid (H.out.below hR.out.b)
    have cq := HQ.out.1
    obtain ⟨op, oc, hov⟩ := owns_slice hR.out.o
    obtain ⟨lp, lc, hlv⟩ := owns_slice hR.out.l
    subst hov hlv
    generalize hn1 : ((L.take k).filter (pickR a b)).length = n1 at *
    generalize hn2 : ((L.take k).filter fun x => !pickR a b x).length = n2 at *
    by_cases hlt : k < L.length
    · have hltI : (k : Int) < (L.length : Int) := by omega
      obtain ⟨g, hvp⟩ := (by
        rcases HQ.out.2.2.1.2 with ⟨_, h1⟩ | ⟨g, cap, cur, e, _⟩
        · omega
        · injection e with e1 _ _
          exact ⟨g, e1⟩ : ∃ g, vp = some ⟨g, 0, none⟩)
      subst hvp
      obtain ⟨r0, r1, r2⟩ := rq_cells HQ.out k hlt
      have HYES : Hid (pickR a b (HL.el L k) = true → ∀ (ov' : Value) (w' : World) (o : Obj), w'.ownsRow w.heap.size 3 1 ov' (n1 + 1) (rowOf ncells (((L.take k).filter (pickR a b)).map (·.1)) ++ rowOf ncells [(HL.el L k).1]) → (wr.alloc o).grownBy w' (Value.slice op n1 oc).ownBlock → RyI w L (pickR a b) (k + 1) ov' (.slice lp n2 lc) w') := Lib.hid (fun hp _ _ _ ho hg => hR.out.yes hlt hp (by rw [hn1]; exact ho) hg)
      have HNO : Hid (pickR a b (HL.el L k) = false → ∀ (lv' : Value) (w' : World) (o : Obj), w'.ownsRow w.heap.size 55 3 lv' (n2 + 1) (rowOf rcells ((L.take k).filter fun x => !pickR a b x) ++ rowOf rcells [HL.el L k]) → (wr.alloc o).grownBy w' (Value.slice lp n2 lc).ownBlock → RyI w L (pickR a b) (k + 1) (.slice op n1 oc) lv' w') := Lib.hid (fun hp _ _ _ ho hg => hR.out.no hlt hp (by rw [hn2]; exact ho) hg)
      have HPK : Hid (∀ c, pickR a b (HL.el L k) = c ↔ (decide ((HL.el L k).2.2 ≤ a) && decide ((HL.el L k).2.1 ≤ b)) = c) := Lib.hid (fun c => Iff.rfl)
      have HLT : Hid (n1 ≤ 10000 ∧ n2 ≤ 10000) := Lib.hid ⟨by
        rw [← hn1]
        have := List.length_filter_le (pickR a b) (L.take k)
        rw [List.length_take] at this
        omega, by
        rw [← hn2]
        have := List.length_filter_le (fun x => !pickR a b x) (L.take k)
        rw [List.length_take] at this
        omega⟩
      have ho0 := hR.out.o
      have hl0 := hR.out.l
      rw [hn1] at ho0
      rw [hn2] at hl0
      have HO := Lib.hid ho0
      have HLL := Lib.hid hl0
      clear ho0 hl0
      have hsz := hR.out.b.size
      clear hR
      generalize HL.el L k = y at *
      obtain ⟨y1, y2, y3⟩ := y
      simp only at r0 r1 r2
      have hn1' := HLT.out.1
      have hn2' := HLT.out.2
      generalize ((L.take k).filter (pickR a b)).map (·.1) = us at *
      clear hn1 hn2
      by_cases h1 : y3 ≤ a
      · by_cases h2 : y2 ≤ b
        · have HP := Lib.hid (HYES.out ((HPK.out true).2 (by simp [h1, h2])))
          clear HYES HNO HPK HLT HQ
          go_wp2_with (at_builtin; refine RowT.app ii_T rfl _ _ rfl w.heap.size (.slice op n1 oc) n1 (rowOf ncells us) rfl (HO.out.alloc _) rfl (RdG.fresh wr [y1] 3) (fun h => by cases h) (by simp; omega) (by simp; omega) ?_; intro v3 w3 hown3 hgr3 _; have HN := Lib.hid (HP.out _ _ _ hown3 hgr3); clear hown3 hgr3)
          go_roundw
          case rel => exact ⟨k + 1, by omega, by go_num, HN⟩
          case measure => simp [intOf]; omega
        · have HP := Lib.hid (HNO.out ((HPK.out false).2 (by simp [h2])))
          clear HYES HNO HPK HLT HQ
          go_wp2_with (at_builtin; refine RowT.app rr_T rfl _ _ rfl w.heap.size (.slice lp n2 lc) n2 (rowOf rcells ((L.take k).filter fun x => !pickR a b x)) rfl (HLL.out.alloc _) rfl (RdG.fresh wr [(y1, y2, y3)] 55) (fun h => by cases h) (by simp; omega) (by simp; omega) ?_; intro v3 w3 hown3 hgr3 _; have HN := Lib.hid (HP.out _ _ _ hown3 hgr3); clear hown3 hgr3)
          go_roundw
          case rel => exact ⟨k + 1, by omega, by go_num, HN⟩
          case measure => simp [intOf]; omega
      · have HP := Lib.hid (HNO.out ((HPK.out false).2 (by simp [h1])))
        clear HYES HNO HPK HLT HQ
        go_wp2_with (at_builtin; refine RowT.app rr_T rfl _ _ rfl w.heap.size (.slice lp n2 lc) n2 (rowOf rcells ((L.take k).filter fun x => !pickR a b x)) rfl (HLL.out.alloc _) rfl (RdG.fresh wr [(y1, y2, y3)] 55) (fun h => by cases h) (by simp; omega) (by simp; omega) ?_; intro v3 w3 hown3 hgr3 _; have HN := Lib.hid (HP.out _ _ _ hown3 hgr3); clear hown3 hgr3)
        go_roundw
        case rel => exact ⟨k + 1, by omega, by go_num, HN⟩
        case measure => simp [intOf]; omega
    · obtain rfl : k = L.length := by omega
      have fq := HQ.out.2.1
      have HEND : Hid (ReadyR rb base L (pickR a b) w (.returned (.slice op n1 oc)) (wr.setCell ⟨rb, 0, none⟩ (.slice lp n2 lc))) := Lib.hid (by
        have ho := hR.out.o
        have hl := hR.out.l
        have hnl := hR.out.nil
        rw [List.take_length] at ho hl hnl
        obtain ⟨e1, e2, e3⟩ := rq_end (L' := L.filter fun x => !pickR a b x) H.out (Below.refl _ w) hR.out.b hl rfl hnl
        have hF : Fr (fun k => k = rb) wr (wr.setCell ⟨rb, 0, none⟩ (.slice lp n2 lc)) := (Fr.refl (fun k => k = rb) wr).setCell (p := ⟨rb, 0, none⟩) (fun _ => rfl) _
        exact ⟨_, _, rfl, hF.owns ho (fun g hg e => by
          have h1 := (ho.lt g hg).1
          have h2 : rb < w.heap.size := hlq
          omega), e1, e2, e3⟩)
      clear hR HQ
      go_wp2
      go_ret
      exact HEND.out

theorem ref_qclear (rb base : Nat) (v : Value) (L : List Rd) (w : World) (h : RQI rb base v L w) (hn : L.length ≤ 10000) :
    Calls Tryz.prog 13 #[.pointer (some ⟨rb, 0, none⟩)] w (ReadyR rb base L (pickR 9223372036854775807 9223372036854775807) w) := by
  have HR := Lib.hid (ref_qready rb base v L 9223372036854775807 9223372036854775807 w h hn)
  clear h
  go_enter Tryz.func13, Tryz.ntmps13
  go_wp2_with fail
  refine HR.out.mono ?_
  rintro e w1 ⟨ov, lv, rfl, h⟩
  have HE := Lib.hid h
  clear h HR
  go_wp2
  go_ret
  exact ⟨ov, lv, rfl, HE.out⟩
end Go.Proofs.YtjpmebfegpmccaaGreat
