/- arboretumref20.Queue: Add, Ready, Clear. -/
import Derived.Test.YtjpmebfegpmccaaGreatRQL
import Derived.Test.YtjpmebfegpmccaaGreatGApp
import Derived.Test.YtjpmebfegpmccaaGreatLater
import Derived.Deep.RegionLaw
namespace Go.Proofs.YtjpmebfegpmccaaGreat
open Go.RowKit

theorem info_rr : (Tryz.prog.info? 55).map (fun i => (i.zero, i.size, i.bytes)) = some (some (.agg #[.int .i64 0, .int .i64 0, .int .i64 0]), 3, 24) := by kernel_rfl
theorem rr_T : RowT Tryz.prog 27 55 rcells 3 24 :=
  RowT.of Tryz.underlying27 info_rr rfl (by omega) rcells_length (fun x u hu => by
    simp only [rcells, List.mem_cons, List.not_mem_nil, or_false] at hu
    rcases hu with rfl | rfl | rfl <;> rfl) (by omega)
theorem ii_T : RowT Tryz.prog 56 3 ncells 1 8 :=
  RowT.of Tryz.underlying56 info_int rfl (by omega) ncells_length (fun x u hu => by
    simp only [ncells, List.mem_cons, List.not_mem_nil, or_false] at hu
    rcases hu with rfl; rfl) (by omega)

/-- The reference's queue. -/
def RQI (rb base : Nat) (v : Value) (L : List Rd) (w : World) : Prop :=
  w.cell? ⟨rb, 0, none⟩ = some v ∧ w.frozen? ⟨rb, 0, none⟩ = false ∧ w.ownsRow base 55 3 v L.length (rowOf rcells L) ∧ v.ownBlock ≠ some rb ∧ base ≤ w.heap.size ∧ (L.length = 0 → v = .slice none 0 0)
def rqF (rb : Nat) (v : Value) (k : Nat) : Prop := k = rb ∨ v.ownBlock = some k

theorem RQI.keep {rb base : Nat} {v : Value} {L : List Rd} {w w' : World} (h : RQI rb base v L w) {S : Nat → Prop} (hf : Fr S w w') (hS : ∀ k, rqF rb v k → ¬ S k) : RQI rb base v L w' := by
  obtain ⟨a, b, c, d, e, f⟩ := h
  have hlt := cell_lt a
  have h1 : ¬ S rb := hS rb (.inl rfl)
  exact ⟨(hf.cell hlt h1).trans a, (hf.frozen hlt h1).trans b, hf.owns c (fun g hg => hS g (.inr hg)), d, Nat.le_trans e hf.size, f⟩
theorem RQI.below {rb base : Nat} {v : Value} {L : List Rd} {w w' : World} (h : RQI rb base v L w) (hb : Below w.heap.size w w') : RQI rb base v L w' :=
  h.keep (Fr.of_all (S := fun _ => False) hb) (fun _ _ h => h)
theorem RQI.lt {rb base : Nat} {v : Value} {L : List Rd} {w : World} (h : RQI rb base v L w) : ∀ k, rqF rb v k → k < w.heap.size := by
  rintro k (rfl | hk)
  · exact cell_lt h.1
  · exact (h.2.2.1.lt k hk).2

/-- What the loop of Add knows at its place. -/
theorem rq_cells {rb base g n c : Nat} {L : List Rd} {w : World} (h : RQI rb base (.slice (some ⟨g, 0, none⟩) n c) L w) (k : Nat) (hk : k < L.length) :
    w.cell? ⟨g, k * 3, none⟩ = some (.int .i64 (HL.el L k).1) ∧ w.cell? ⟨g, k * 3 + 1, none⟩ = some (.int .i64 (HL.el L k).2.1) ∧ w.cell? ⟨g, k * 3 + 2, none⟩ = some (.int .i64 (HL.el L k).2.2) := by
  have ho := h.2.2.1
  obtain ⟨p, cc, e⟩ := owns_slice ho
  injection e with e1 e2 e3
  subst e2
  have hr := RdG.of_own (f := rcells) ho rfl
  obtain ⟨b, o, e, _, h0, h1, h2⟩ := hr.read k hk
  injection e with e
  injection e with e1 e2 _
  subst e1 e2
  rw [Nat.zero_add] at h0 h1 h2
  exact ⟨h0, h1, h2⟩

theorem owns_less {w : World} {base base' n : Nat} {e : TypeId} {size : Nat} {v : Value} {xs : List Value} (h : w.ownsRow base e size v n xs) (hb : base' ≤ base) : w.ownsRow base' e size v n xs := by
  refine ⟨h.1, ?_⟩
  rcases h.2 with h | ⟨g, cap, cur, hv, hg, h2⟩
  · exact .inl h
  · exact .inr ⟨g, cap, cur, hv, Nat.le_trans hb hg, h2⟩
/-! What the three appends leave. -/
theorem rg_one {α : Type} {f : α → List Value} {te : TypeId} {size B k : Nat} {w W w3 : World} {v3 : Value} {us : List α} (hb : Below B w W) (ho : w3.ownsRow B te size v3 (0 + k) ([] ++ rowOf f us)) (hg : W.grownBy w3 (Value.slice none 0 0).ownBlock) (hB : B = w.heap.size := by rfl) : w3.ownsRow B te size v3 k (rowOf f us) ∧ Below B w w3 := by
  rw [Nat.zero_add, List.nil_append] at ho
  exact ⟨ho, hb.grown hg (by rw [hB]; exact hb.size) (fun k hk => by cases hk)⟩
theorem rg_two {te : TypeId} {size B n m : Nat} {w w3 w4 : World} {v3 v4 : Value} {us : List Value} {vs : List Value} (ho : w3.ownsRow B te size v3 n us) (hb : Below B w w3) (ho4 : w4.ownsRow B te size v4 (n + m) (us ++ vs)) (hg : w3.grownBy w4 v3.ownBlock ∨ ∃ X, (w3.alloc X).grownBy w4 v3.ownBlock) (hB : B = w.heap.size := by rfl) : w4.ownsRow B te size v4 (n + m) (us ++ vs) ∧ Below B w w4 := by
  refine ⟨ho4, ?_⟩
  have hs := hb.size
  rcases hg with hg | ⟨X, hg⟩
  · exact hb.grown hg (by omega) (fun k hk => (ho.lt k hk).1)
  · exact (hb.alloc (by omega) X).grown hg (by simp; omega) (fun k hk => (ho.lt k hk).1)
theorem rd_three {w : World} {b : Nat} {x : Rd} (h0 : w.cell? ⟨b, 0, none⟩ = some (.int .i64 x.1)) (h1 : w.cell? ⟨b, 1, none⟩ = some (.int .i64 x.2.1)) (h2 : w.cell? ⟨b, 2, none⟩ = some (.int .i64 x.2.2)) : RdG rcells w w.heap.size (some ⟨b, 0, none⟩) 1 [x] :=
  ⟨rfl, fun _ => ⟨b, 0, rfl, cell_lt h0, fun j u hu => by
    rw [rowOf_one] at hu
    rw [Nat.zero_add]
    match j, hu with
    | 0, hu => injection hu with hu; subst hu; exact h0
    | 1, hu => injection hu with hu; subst hu; exact h1
    | 2, hu => injection hu with hu; subst hu; exact h2⟩⟩

theorem rd_new3 (w : World) (x1 x2 x3 : Int) (t : TypeId) : RdG rcells (w.alloc (.cells #[.int .i64 x1, .int .i64 x2, .int .i64 x3] t)) (w.alloc (.cells #[.int .i64 x1, .int .i64 x2, .int .i64 x3] t)).heap.size (some ⟨w.heap.size, 0, none⟩) 1 [(x1, x2, x3)] := by
  have e := RdG.fresh (f := rcells) w [(x1, x2, x3)] t
  exact RdG.more e (by simp)
theorem RdG.far {α : Type} {f : α → List Value} {W w3 : World} {p : Option Addr} {n : Nat} {zs : List α} (h : RdG f W W.heap.size p n zs) (hg : W.grownBy w3 (Value.slice none 0 0).ownBlock) : RdG f w3 w3.heap.size p n zs :=
  (h.below ((Below.refl W.heap.size W).grown hg (Nat.le_refl _) (fun k hk => by cases hk))).more hg.size

/-- A function without results ends behind what is walked. -/
theorem wp_ends {P : Program} {c : Code} {a : Act} {w : World} {fn : Func} {R : Ending → World → Prop} (hr : fn.results = #[]) (h : c.wp P (fun e a W => e = .normal ∧ a.defers = [] ∧ R (.returned (.tuple #[])) W) a w) : c.wp P (bodyPost P fn R) a w :=
  Code.wp_mono (by rintro e a W ⟨rfl, hd, hR⟩; exact bodyPost_end (results_none hr _ _ _) hd hR) h

/-- The queue with another row. -/
theorem rq_end {rb base n5 : Nat} {v v5 : Value} {L L' : List Rd} {w W w5 : World} (hI : RQI rb base v L w) (hb : Below w.heap.size w W) (hb5 : Below W.heap.size W w5) (ho : w5.ownsRow W.heap.size 55 3 v5 n5 (rowOf rcells L')) (hl : L'.length = n5) (hnil : n5 = 0 → v5 = .slice none 0 0) :
    RQI rb base v5 L' (w5.setCell ⟨rb, 0, none⟩ v5) ∧ Fr (fun k => k = rb) w (w5.setCell ⟨rb, 0, none⟩ v5) ∧ ∀ g, v5.ownBlock = some g → w.heap.size ≤ g := by
  subst hl
  obtain ⟨a, b, c, d, e, f⟩ := hI
  have hlt := cell_lt a
  have hF0 : Fr (fun _ => False) w w5 := Fr.of_all (hb.trans (hb5.mono hb.size))
  have hF : Fr (fun k => k = rb) w5 (w5.setCell ⟨rb, 0, none⟩ v5) := (Fr.refl (fun k => k = rb) w5).setCell (p := ⟨rb, 0, none⟩) (fun _ => rfl) _
  have hne : ∀ g, v5.ownBlock = some g → g ≠ rb := fun g hg e => by
    have h1 := (ho.lt g hg).1
    have h2 := hb.size
    have h3 : rb < w.heap.size := hlt
    omega
  have hbs := hb.size
  have hbs5 := hb5.size
  refine ⟨⟨cell_set_same _ _ _ _ ((hF0.cell hlt (fun h => h)).trans a), by rw [frozen_set]; exact (hF0.frozen hlt (fun h => h)).trans b, owns_less (hF.owns ho (fun g hg => hne g hg)) (by omega), fun h => hne rb h rfl, by have := hF.size; omega, hnil⟩, Fr.trans (hF0.mono (fun _ _ h => h.elim)) hF (fun i hi _ => hi), fun g hg => Nat.le_trans hbs (ho.lt g hg).1⟩

set_option maxHeartbeats 40000000 in
set_option maxRecDepth 100000 in
theorem ref_qadd (rb base g n c : Nat) (L : List Rd) (x : Rd) (w : World) (h : RQI rb base (.slice (some ⟨g, 0, none⟩) n c) L w) (hn : L.length ≤ 10000) (hn0 : 0 < n) :
    Calls Tryz.prog 7 #[.pointer (some ⟨rb, 0, none⟩), rv x] w fun e w' => e = .returned (.tuple #[]) ∧ ∃ v', RQI rb base v' (insD L x) w' ∧ Fr (fun k => k = rb) w w' ∧ ∀ g, v'.ownBlock = some g → w.heap.size ≤ g := by
  obtain ⟨x1, x2, x3⟩ := x
  have H := Lib.hid h
  obtain ⟨hcq, hfq, ho, hne, hbs, _⟩ := h
  obtain rfl : n = L.length := by
    obtain ⟨p, cc, e⟩ := owns_slice ho
    injection e
  obtain ⟨hnc, hcm⟩ := (by
    rcases ho.2 with ⟨h, _⟩ | ⟨_, _, _, h, _, _, hc, hm, _⟩
    · cases h
    · injection h with _ _ h
      subst h
      unfold maxLen at hm
      exact ⟨hc, hm⟩ : L.length ≤ c ∧ c ≤ 9223372036854775807)
  have hlq := cell_lt hcq
  have HQ := Lib.hid hcq
  generalize hW0 : w.alloc (.cells #[.int .i64 x1, .int .i64 x2, .int .i64 x3] 55) = W0
  have HB0 : Hid (Below w.heap.size w W0) := Lib.hid (by rw [← hW0]; exact (Below.refl _ w).alloc (Nat.le_refl _) _)
  have hz0 : W0.heap.size = w.heap.size + 1 := by rw [← hW0]; simp
  have HX0 : Hid (W0.cell? ⟨w.heap.size, 0, none⟩ = some (.int .i64 x1) ∧ W0.cell? ⟨w.heap.size, 1, none⟩ = some (.int .i64 x2) ∧ W0.cell? ⟨w.heap.size, 2, none⟩ = some (.int .i64 x3)) := Lib.hid (by subst hW0; exact ⟨by go_simp, by go_simp, by go_simp⟩)
  have HW0 := Lib.hid hW0
  clear ho hne hbs hcq hfq hW0
  go_enter Tryz.func7, Tryz.ntmps7
  go_wp2
  rename_i Q' K hK
  rw [HW0.out]
  have TAIL : Hid (∀ (k : Nat) (u1 u2 u5 u6 u7 u8 u9 u10 u11 u12 u13 u14 u15 u16 u17 u18 u19 u20 u21 u22 u23 u24 u25 u26 u27 u28 u29 u30 u31 u32 u33 u34 u35 u36 u37 u38 u39 u40 u41 u42 u43 u44 u45 u46 u47 u48 u49 u50 u51 u52 u53 u54 u55 u56 u57 u58 u59 u60 u61 u62 u63 u64 u65 u66 u67 u68 u69 u70 u71 u72 : Value) (W : World), k ≤ L.length → Below W0.heap.size W0 W → insD L (x1, x2, x3) = L.take k ++ [(x1, x2, x3)] ++ L.drop k → K ⟨#[.pointer (some ⟨rb, 0, none⟩), u1, u2, .pointer (some ⟨w.heap.size, 0, none⟩), .int .i64 k, u5, u6, u7, u8, u9, u10, u11, u12, u13, u14, u15, u16, u17, u18, u19, u20, u21, u22, u23, u24, u25, u26, u27, u28, u29, u30, u31, u32, u33, u34, u35, u36, u37, u38, u39, u40, u41, u42, u43, u44, u45, u46, u47, u48, u49, u50, u51, u52, u53, u54, u55, u56, u57, u58, u59, u60, u61, u62, u63, u64, u65, u66, u67, u68, u69, u70, u71, u72], []⟩ W) := by
    refine Lib.hid ?_
    intro k u1 u2 u5 u6 u7 u8 u9 u10 u11 u12 u13 u14 u15 u16 u17 u18 u19 u20 u21 u22 u23 u24 u25 u26 u27 u28 u29 u30 u31 u32 u33 u34 u35 u36 u37 u38 u39 u40 u41 u42 u43 u44 u45 u46 u47 u48 u49 u50 u51 u52 u53 u54 u55 u56 u57 u58 u59 u60 u61 u62 u63 u64 u65 u66 u67 u68 u69 u70 u71 u72 W hk hB hins
    refine hK _ _ ?_
    clear hK
    have hs := hB.size
    have HINS := Lib.hid hins
    have cq : W.cell? ⟨rb, 0, none⟩ = some (.slice (some ⟨g, 0, none⟩) L.length c) := (hB.cell (p := ⟨rb, 0, none⟩) (by show rb < _; omega)).trans ((HB0.out.cell (p := ⟨rb, 0, none⟩) hlq).trans HQ.out)
    have b0 : W.cell? ⟨w.heap.size, 0, none⟩ = some (.int .i64 x1) := (hB.cell (p := ⟨w.heap.size, 0, none⟩) (by show w.heap.size < _; omega)).trans HX0.out.1
    have b1 : W.cell? ⟨w.heap.size, 1, none⟩ = some (.int .i64 x2) := (hB.cell (p := ⟨w.heap.size, 1, none⟩) (by show w.heap.size < _; omega)).trans HX0.out.2.1
    have b2 : W.cell? ⟨w.heap.size, 2, none⟩ = some (.int .i64 x3) := (hB.cell (p := ⟨w.heap.size, 2, none⟩) (by show w.heap.size < _; omega)).trans HX0.out.2.2
    have hlr := cell_lt cq
    have hlb := cell_lt b0
    have hbw : Below w.heap.size w W := HB0.out.trans (hB.mono HB0.out.size)
    have hI : RQI rb base (.slice (some ⟨g, 0, none⟩) L.length c) L W := H.out.below hbw
    have HI := Lib.hid hI
    have hrd : RdG rcells W W.heap.size (some ⟨g, 0, none⟩) L.length L := RdG.of_own hI.2.2.1 rfl
    have HT := Lib.hid (hrd.takes rcells_length hk)
    have HD := Lib.hid (hrd.drops rcells_length hk)
    rw [Nat.zero_add] at HD
    have hd0 : Below W.heap.size W W.drew := ((Fr.refl (fun _ => False) W).drew).below (Nat.le_refl _) (fun _ h => h.elim)
    have HBd := Lib.hid hd0
    have HBW := Lib.hid hbw
    have HC : Hid (∀ V, Below W.heap.size W V → V.cell? ⟨rb, 0, none⟩ = some (.slice (some ⟨g, 0, none⟩) L.length c) ∧ V.cell? ⟨w.heap.size, 0, none⟩ = some (.int .i64 x1) ∧ V.cell? ⟨w.heap.size, 1, none⟩ = some (.int .i64 x2) ∧ V.cell? ⟨w.heap.size, 2, none⟩ = some (.int .i64 x3)) := Lib.hid (fun V hV =>
      ⟨(hV.cell (p := ⟨rb, 0, none⟩) hlr).trans cq, (hV.cell (p := ⟨w.heap.size, 0, none⟩) hlb).trans b0, (hV.cell (p := ⟨w.heap.size, 1, none⟩) hlb).trans b1, (hV.cell (p := ⟨w.heap.size, 2, none⟩) hlb).trans b2⟩)
    have HFZ : Hid (∀ V, Below W.heap.size W V → V.frozen? ⟨rb, 0, none⟩ = false) := Lib.hid (fun V hV => ((Fr.of_all (S := fun _ => False) hV).frozen (p := ⟨rb, 0, none⟩) hlr (fun h => h)).trans hI.2.1)
    clear hins hrd hI hd0 hbw hB hs
    refine wp_ends rfl ?_
    rcases Nat.lt_or_ge k c with hck | hck
    · have hkc : k ≤ c := by omega
      have hck2 : ¬ c = k := by omega
      go_region_law (first
        | (refine RowT.step rr_T rfl _ _ rfl W.heap.size (.slice none 0 0) 0 [] rfl (World.ownsRow_nil _ _ _ _) (m := k) (zs := L.take k) rfl (HT.out.below (by first | exact HBd.out | exact HBd.out.alloc (Nat.le_refl _) _)) (fun h => by cases h) (by omega) (by simp) ?_; intro v3 w3 hown3 hgr3 _; have H3 := Lib.hid (rg_one (B := W.heap.size) (w := W) (by first | exact HBd.out | exact HBd.out.alloc (Nat.le_refl _) _) hown3 hgr3); obtain ⟨cq3, b03, b13, b23⟩ := HC.out w3 H3.out.2; have hl3 := cell_lt cq3; have hm3 := cell_lt b03; (first | (have HX3 := Lib.hid (RdG.far (rd_new3 W.drew x1 x2 x3 55) hgr3)) | skip); clear hown3 hgr3)
        | (refine RowT.step rr_T rfl _ _ rfl W.heap.size v3 k (rowOf rcells (L.take k)) rfl (by first | exact H3.out.1 | exact H3.out.1.alloc _) (m := 1) (zs := [(x1, x2, x3)]) rfl (by first | exact rd_new3 w3 x1 x2 x3 _ | exact HX3.out) (fun h => by cases h) (by omega) (by have := H3.out.2.size; first | omega | (simp; omega)) ?_; intro v4 w4 hown4 hgr4 _; have H4 := Lib.hid (rg_two H3.out.1 H3.out.2 hown4 (by first | exact .inl hgr4 | exact .inr ⟨_, hgr4⟩)); obtain ⟨cq4, b04, b14, b24⟩ := HC.out w4 H4.out.2; have hl4 := cell_lt cq4; clear hown4 hgr4)
        | (refine RowT.step rr_T rfl _ _ rfl W.heap.size v4 (k + 1) (rowOf rcells (L.take k) ++ rowOf rcells [(x1, x2, x3)]) rfl H4.out.1 (m := L.length - k) (zs := L.drop k) (B := W.heap.size) rfl (HD.out.below H4.out.2) (fun h => by cases h) (by omega) (H4.out.2.size) ?_; intro v5 w5 hown5 hgr5 _; obtain ⟨p5, c5, hv5⟩ := owns_slice hown5; subst hv5; have H5 := Lib.hid (rg_two (n := k + 1) H4.out.1 H4.out.2 hown5 (.inl hgr5)); have cq5 := (HC.out w5 H5.out.2).1; have fq5 := HFZ.out w5 H5.out.2; clear hown5 hgr5))
      all_goals
        obtain ⟨h1, h2, h3⟩ := rq_end (L' := insD L (x1, x2, x3)) H.out HBW.out H5.out.2 (by have e := H5.out.1; rw [HINS.out, rowOf_append, rowOf_append]; exact e) (by rw [insD_length]; omega) (by omega)
        exact ⟨rfl, rfl, rfl, _, h1, h2, h3⟩
    · obtain rfl : k = L.length := by omega
      obtain rfl : c = L.length := by omega
      go_region_law (first
        | (refine RowT.step rr_T rfl _ _ rfl W.heap.size (.slice none 0 0) 0 [] rfl (World.ownsRow_nil _ _ _ _) (m := L.length) (zs := L.take L.length) rfl (HT.out.below (by first | exact HBd.out | exact HBd.out.alloc (Nat.le_refl _) _)) (fun h => by cases h) (by omega) (by simp) ?_; intro v3 w3 hown3 hgr3 _; have H3 := Lib.hid (rg_one (B := W.heap.size) (w := W) (by first | exact HBd.out | exact HBd.out.alloc (Nat.le_refl _) _) hown3 hgr3); obtain ⟨cq3, b03, b13, b23⟩ := HC.out w3 H3.out.2; have hl3 := cell_lt cq3; have hm3 := cell_lt b03; (first | (have HX3 := Lib.hid (RdG.far (rd_new3 W.drew x1 x2 x3 55) hgr3)) | skip); clear hown3 hgr3)
        | (refine RowT.step rr_T rfl _ _ rfl W.heap.size v3 L.length (rowOf rcells (L.take L.length)) rfl (by first | exact H3.out.1 | exact H3.out.1.alloc _) (m := 1) (zs := [(x1, x2, x3)]) rfl (by first | exact rd_new3 w3 x1 x2 x3 _ | exact HX3.out) (fun h => by cases h) (by omega) (by have := H3.out.2.size; first | omega | (simp; omega)) ?_; intro v4 w4 hown4 hgr4 _; have H4 := Lib.hid (rg_two H3.out.1 H3.out.2 hown4 (by first | exact .inl hgr4 | exact .inr ⟨_, hgr4⟩)); obtain ⟨cq4, b04, b14, b24⟩ := HC.out w4 H4.out.2; have hl4 := cell_lt cq4; clear hown4 hgr4)
        | (refine RowT.step rr_T rfl _ _ rfl W.heap.size v4 (L.length + 1) (rowOf rcells (L.take L.length) ++ rowOf rcells [(x1, x2, x3)]) rfl H4.out.1 (m := 0) (zs := []) (B := W.heap.size) rfl (⟨rfl, fun h => absurd h (by omega)⟩) (fun h => by cases h) (by omega) (H4.out.2.size) ?_; intro v5 w5 hown5 hgr5 _; obtain ⟨p5, c5, hv5⟩ := owns_slice hown5; subst hv5; have H5 := Lib.hid (rg_two (n := L.length + 1) H4.out.1 H4.out.2 hown5 (.inl hgr5)); have cq5 := (HC.out w5 H5.out.2).1; have fq5 := HFZ.out w5 H5.out.2; clear hown5 hgr5))
      all_goals
        obtain ⟨h1, h2, h3⟩ := rq_end (L' := insD L (x1, x2, x3)) (n5 := L.length + 1) H.out HBW.out H5.out.2 (by have e := H5.out.1; rw [HINS.out, rowOf_append, rowOf_append, List.drop_length]; simpa [rowOf] using e) (by rw [insD_length]) (by omega)
        exact ⟨rfl, rfl, rfl, _, h1, h2, h3⟩
  clear hK
  go_loopw [4] (fun iv wr => ∃ k : Nat, k ≤ L.length ∧ iv = .int .i64 k ∧ Hid (∀ i, i < k → keyLe (x1, x2, x3) (HL.el L i) = true) ∧ Hid (Below W0.heap.size W0 wr)) (fun iv _ => L.length - (intOf iv).toNat)
  case atStart => exact ⟨0, Nat.zero_le _, rfl, Lib.hid (fun i hi => by omega), Lib.hid (Below.refl _ _)⟩
  case round =>
    obtain ⟨k, hk, rfl, HLE, HB⟩ := hrel
    have hsz := HB.out.size
    have hI : RQI rb base (.slice (some ⟨g, 0, none⟩) L.length c) L wr := H.out.below (HB0.out.trans (HB.out.mono HB0.out.size))
    have cq : ∀ q : Later wr, q.1.cell? ⟨rb, 0, none⟩ = some (.slice (some ⟨g, 0, none⟩) L.length c) := fun q => (hI.below q.2).1
    have b1 : ∀ q : Later wr, q.1.cell? ⟨w.heap.size, 1, none⟩ = some (.int .i64 x2) := fun q => (q.2.cell (p := ⟨w.heap.size, 1, none⟩) (by show w.heap.size < _; omega)).trans ((HB.out.cell (p := ⟨w.heap.size, 1, none⟩) (by show w.heap.size < _; omega)).trans HX0.out.2.1)
    have b2 : ∀ q : Later wr, q.1.cell? ⟨w.heap.size, 2, none⟩ = some (.int .i64 x3) := fun q => (q.2.cell (p := ⟨w.heap.size, 2, none⟩) (by show w.heap.size < _; omega)).trans ((HB.out.cell (p := ⟨w.heap.size, 2, none⟩) (by show w.heap.size < _; omega)).trans HX0.out.2.2)
    have HI := Lib.hid hI
    have FIN : Hid (∀ W, Below wr.heap.size wr W → Below W0.heap.size W0 W) := Lib.hid (fun W hW => HB.out.trans (hW.mono HB.out.size))
    clear hI
    by_cases hlt : k < L.length
    · have r1 : ∀ q : Later wr, q.1.cell? ⟨g, k * 3 + 1, none⟩ = some (.int .i64 (HL.el L k).2.1) := fun q => (rq_cells (HI.out.below q.2) k hlt).2.1
      have r2 : ∀ q : Later wr, q.1.cell? ⟨g, k * 3 + 2, none⟩ = some (.int .i64 (HL.el L k).2.2) := fun q => (rq_cells (HI.out.below q.2) k hlt).2.2
      have HK1 : Hid (keyLe (x1, x2, x3) (HL.el L k) = true → ∀ i, i < k + 1 → keyLe (x1, x2, x3) (HL.el L i) = true) := Lib.hid (fun h i hi => by
        by_cases e : i = k
        · subst e; exact h
        · exact HLE.out i (by omega))
      have HK2 : Hid (keyLe (x1, x2, x3) (HL.el L k) = false → insD L (x1, x2, x3) = L.take k ++ [(x1, x2, x3)] ++ L.drop k) := Lib.hid (fun h => insD_at (by omega) HLE.out (fun _ => h))
      have HKD : Hid (∀ b, keyLe (x1, x2, x3) (HL.el L k) = b ↔ decide ((HL.el L k).2.2 < x3 ∨ ((HL.el L k).2.2 = x3 ∧ (HL.el L k).2.1 ≤ x2)) = b) := Lib.hid (fun b => Iff.rfl)
      generalize (HL.el L k).2.1 = y2 at *
      generalize (HL.el L k).2.2 = y3 at *
      have d0 : decide (k < L.length) = true := decide_eq_true hlt
      have d0i : decide ((k : Int) < (L.length : Int)) = true := decide_eq_true (by omega)
      clear HLE HB hsz
      have hcase : y3 < x3 ∨ (¬ y3 < x3 ∧ y3 = x3 ∧ y2 ≤ x2) ∨ (¬ y3 < x3 ∧ y3 = x3 ∧ ¬ y2 ≤ x2) ∨ (¬ y3 < x3 ∧ ¬ y3 = x3) := by omega
      rcases hcase with h1 | ⟨h1, h2, h3⟩ | ⟨h1, h2, h3⟩ | ⟨h1, h2⟩
      · have HN := Lib.hid (HK1.out ((HKD.out true).2 (decide_eq_true (.inl h1))))
        have d1 : decide (y3 < x3) = true := decide_eq_true h1
        clear h1 HK1 HK2 HKD
        go_wp2_with fail
        refine wp_region_later (by kernel_rfl) (by kernel_rfl) ?_
        repeat (go_big_quiet_step (fail))
        refine wpQuiet_nil ?_
        intro _ hw'
        obtain ⟨⟨wq, hq⟩, hw''⟩ := hw'
        subst hw''
        have HQ2 := Lib.hid (FIN.out _ hq)
        clear hq cq b1 b2 r1 r2
        go_wp2
        go_roundw
        case rel => exact ⟨k + 1, by omega, by go_num, HN, HQ2⟩
        case measure => simp [intOf]; omega
      · have HN := Lib.hid (HK1.out ((HKD.out true).2 (decide_eq_true (.inr ⟨h2, h3⟩))))
        have d1 : decide (y3 < x3) = false := decide_eq_false h1
        have d2 : (y3 == x3) = true := by rw [beq_iff_eq]; exact h2
        have d3 : decide (y2 ≤ x2) = true := decide_eq_true h3
        clear h1 h2 h3 HK1 HK2 HKD
        go_wp2_with fail
        refine wp_region_later (by kernel_rfl) (by kernel_rfl) ?_
        repeat (go_big_quiet_step (fail))
        refine wpQuiet_nil ?_
        intro _ hw'
        obtain ⟨⟨wq, hq⟩, hw''⟩ := hw'
        subst hw''
        have HQ2 := Lib.hid (FIN.out _ hq)
        clear hq cq b1 b2 r1 r2
        go_wp2
        go_roundw
        case rel => exact ⟨k + 1, by omega, by go_num, HN, HQ2⟩
        case measure => simp [intOf]; omega
      · have HIN := Lib.hid (HK2.out ((HKD.out false).2 (decide_eq_false (by omega))))
        have d1 : decide (y3 < x3) = false := decide_eq_false h1
        have d2 : (y3 == x3) = true := by rw [beq_iff_eq]; exact h2
        have d3 : decide (y2 ≤ x2) = false := decide_eq_false h3
        clear h1 h2 h3 HK1 HK2 HKD
        go_wp2_with fail
        refine wp_region_later (by kernel_rfl) (by kernel_rfl) ?_
        repeat (go_big_quiet_step (fail))
        refine wpQuiet_nil ?_
        intro _ hw'
        obtain ⟨⟨wq, hq⟩, hw''⟩ := hw'
        subst hw''
        have HQ2 := Lib.hid (FIN.out _ hq)
        clear hq cq b1 b2 r1 r2
        go_wp2
        exact TAIL.out k _ _ _ _ _ _ _ _ _ _ _ _ _ _ _ _ _ _ _ _ _ _ _ _ _ _ _ _ _ _ _ _ _ _ _ _ _ _ _ _ _ _ _ _ _ _ _ _ _ _ _ _ _ _ _ _ _ _ _ _ _ _ _ _ _ _ _ _ _ _ _ (by omega) HQ2.out HIN.out
      · have HIN := Lib.hid (HK2.out ((HKD.out false).2 (decide_eq_false (by omega))))
        have d1 : decide (y3 < x3) = false := decide_eq_false h1
        have d2 : (y3 == x3) = false := by rw [beq_eq_false_iff_ne]; exact h2
        clear h1 h2 HK1 HK2 HKD
        go_wp2_with fail
        refine wp_region_later (by kernel_rfl) (by kernel_rfl) ?_
        repeat (go_big_quiet_step (fail))
        refine wpQuiet_nil ?_
        intro _ hw'
        obtain ⟨⟨wq, hq⟩, hw''⟩ := hw'
        subst hw''
        have HQ2 := Lib.hid (FIN.out _ hq)
        clear hq cq b1 b2 r1 r2
        go_wp2
        exact TAIL.out k _ _ _ _ _ _ _ _ _ _ _ _ _ _ _ _ _ _ _ _ _ _ _ _ _ _ _ _ _ _ _ _ _ _ _ _ _ _ _ _ _ _ _ _ _ _ _ _ _ _ _ _ _ _ _ _ _ _ _ _ _ _ _ _ _ _ _ _ _ _ _ (by omega) HQ2.out HIN.out
    · obtain rfl : k = L.length := by omega
      have HIN : Hid (insD L (x1, x2, x3) = L.take L.length ++ [(x1, x2, x3)] ++ L.drop L.length) := Lib.hid (insD_at (Nat.le_refl _) HLE.out (fun h => absurd h (by omega)))
      have d0 : decide (L.length < L.length) = false := decide_eq_false hlt
      have d0i : decide ((L.length : Int) < (L.length : Int)) = false := decide_eq_false (by omega)
      clear HLE HB hsz hlt
      go_wp2_with fail
      refine wp_region_later (by kernel_rfl) (by kernel_rfl) ?_
      repeat (go_big_quiet_step (fail))
      refine wpQuiet_nil ?_
      intro _ hw'
      obtain ⟨⟨wq, hq⟩, hw''⟩ := hw'
      subst hw''
      have HQ2 := Lib.hid (FIN.out _ hq)
      clear hq cq b1 b2
      go_wp2
      exact TAIL.out L.length _ _ _ _ _ _ _ _ _ _ _ _ _ _ _ _ _ _ _ _ _ _ _ _ _ _ _ _ _ _ _ _ _ _ _ _ _ _ _ _ _ _ _ _ _ _ _ _ _ _ _ _ _ _ _ _ _ _ _ _ _ _ _ _ _ _ _ _ _ _ _ (by omega) HQ2.out HIN.out
end Go.Proofs.YtjpmebfegpmccaaGreat
