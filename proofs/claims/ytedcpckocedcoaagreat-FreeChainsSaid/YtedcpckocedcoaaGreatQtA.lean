/- The Book of texts, beside whatever else it holds. (Turned from the Book of ints by gen-texts.py.) -/
import Derived.Test.YtedcpckocedcoaaGreatQtG
import Derived.Test.YtedcpckocedcoaaGreatQiA
import Derived.Deep.RegionLaw
namespace Go.Proofs.YtedcpckocedcoaaGreat
open Go.RowKit

set_option maxRecDepth 100000 in
theorem run_append_sliceT {w : World} (ty : TypeId) (base : Nat) (v : Value) (n : Nat) (xs : List Value) (hown : w.ownsRow base 68 1 v n xs) (b : Nat) (u : Value) (hc : w.cell? ⟨b, 0, none⟩ = some u) (h1 : u.oneCell' = true) (hsm : n ≤ 100000) (hbase : base ≤ w.heap.size) :
    ∃ g cap w', (Builtin.append_ #[41, 41] ty #[v, .slice (some ⟨b, 0, none⟩) 1 1]).run Tryz.prog w = .ok (.slice (some ⟨g, 0, none⟩) (n + 1) cap) w' ∧ w'.ownsRow base 68 1 (.slice (some ⟨g, 0, none⟩) (n + 1) cap) (n + 1) (xs ++ [u]) ∧ w.grownBy w' v.ownBlock ∧ (v.ownBlock = some g ∨ g = w.heap.size) := by
  obtain ⟨i0, hi0, hz0, hz1, hz2⟩ := info_parts info_textss
  have hnews : ∀ j y, [u][j]? = some y → w.cell? ((⟨b, 0, none⟩ : Addr).add j) = some y := by
    intro j y hy
    rw [add_at]
    match j, hy with
    | 0, hy => injection hy with hy; subst hy; exact hc
  obtain ⟨g, cap, w', hr, h2, h3, h4, _⟩ := run_append_lies (P := Tryz.prog) w 41 ty base 68 i0 (.slice none 0 0) 1 24 Tryz.underlying41 hi0 hz0 hz1 hz2 rfl (by omega) v n xs hown ⟨b, 0, none⟩ 1 1 [u] rfl hnews (fun y hy => by simp at hy; subst hy; exact h1) (by omega) (by unfold maxLen; omega) (by omega) hbase w.heap.size rfl
  exact ⟨g, cap, w', hr, h2, h3, h4⟩

/-- append(row of slices, one more): where it lies. -/
theorem append_sliceT2 {ops : Array Oper} {rest : List Oper} {o : Oper} {a : Act} {Q : Exit → Act → World → Prop} {w : World} (hgd : o.guard = none) (s x : Operand)
    (ho : o.op = .call { callee := .builtin .append, args := #[s, x], argTypes := #[41, 41] }) (base : Nat) (v : Value) (n : Nat) (xs : List Value) (hs : a.eval s = v) (hown : w.ownsRow base 68 1 v n xs)
    (b : Nat) (u : Value) (hx : a.eval x = .slice (some ⟨b, 0, none⟩) 1 1) (hc : w.cell? ⟨b, 0, none⟩ = some u) (h1 : u.oneCell' = true) (hsm : n ≤ 100000) (hbase : base ≤ w.heap.size)
    (h : ∀ g cap w', w'.ownsRow base 68 1 (.slice (some ⟨g, 0, none⟩) (n + 1) cap) (n + 1) (xs ++ [u]) → w.grownBy w' v.ownBlock → (v.ownBlock = some g ∨ g = w.heap.size) → wpList Tryz.prog ops Q rest (a.put o.dst (.slice (some ⟨g, 0, none⟩) (n + 1) cap)) w') : wpList Tryz.prog ops Q (o :: rest) a w := by
  obtain ⟨g, cap, w', hr, h2, h3, h4⟩ := run_append_sliceT o.type base v n xs hown b u hc h1 hsm hbase
  refine wpList_plain hgd fun _ hK => ?_
  unfold Oper.wp execOp
  simp only [ho, resolve, invoke, builtin, Sem.run_bind, Sem.run_pure, Result.andThen_ok, List.map_toArray, List.map_cons, List.map_nil, hs, hx, hr]
  exact hK _ _ (h g cap w' h2 h3 h4)

theorem step_append_sliceT {ops : Array Oper} {o : Oper} {a : Act} {K : Act → World → Prop} {Q : Exit → Act → World → Prop} {E : Prop} {w : World} (hgd : o.guard = none) (s x : Operand)
    (ho : o.op = .call { callee := .builtin .append, args := #[s, x], argTypes := #[41, 41] }) (base : Nat) (v : Value) (n : Nat) (xs : List Value) (hs : a.eval s = v) (hown : w.ownsRow base 68 1 v n xs)
    (b : Nat) (u : Value) (hx : a.eval x = .slice (some ⟨b, 0, none⟩) 1 1) (hc : w.cell? ⟨b, 0, none⟩ = some u) (h1 : u.oneCell' = true) (hsm : n ≤ 100000) (hbase : base ≤ w.heap.size)
    (h : ∀ g cap w', w'.ownsRow base 68 1 (.slice (some ⟨g, 0, none⟩) (n + 1) cap) (n + 1) (xs ++ [u]) → w.grownBy w' v.ownBlock → (v.ownBlock = some g ∨ g = w.heap.size) → K (a.put o.dst (.slice (some ⟨g, 0, none⟩) (n + 1) cap)) w') : if Region.wanted o (yielded ops a.tmps) = true then Oper.wp Tryz.prog o a w K Q else E := by
  obtain ⟨g, cap, w', hr, h2, h3, h4⟩ := run_append_sliceT o.type base v n xs hown b u hc h1 hsm hbase
  have hw : Region.wanted o (yielded ops a.tmps) = true := by simp [Region.wanted, hgd]
  rw [if_pos hw]
  unfold Oper.wp execOp
  simp only [ho, resolve, invoke, builtin, Sem.run_bind, Sem.run_pure, Result.andThen_ok, List.map_toArray, List.map_cons, List.map_nil, hs, hx, hr]
  exact h g cap w' h2 h3 h4

theorem slice_cellT (w : World) (u : Value) : (w.alloc (.cells #[u] 68)).cell? ⟨w.heap.size, 0, none⟩ = some u := by
  have e := new_cells w [u] 68 0 _ rfl
  rw [add_at] at e
  exact e

section
variable {w w2 w3 w5 : World} {bb base : Nat} {iv wv : Value} {N m : Nat} {V W : Nat → Value} {n : Nat → Nat} {Z : Nat → Nat → ByteArray} {v u iv' wv' : Value} {zs : List ByteArray}

end


structure BookT (P : Nat → Value → Prop) (w : World) (bb base : Nat) (iv wv : Value) (N : Nat) (V W : Nat → Value) (n : Nat → Nat) (Z : Nat → Nat → ByteArray) : Prop where
  bk : BkT w bb base iv N V n Z
  c3 : w.cell? ⟨bb, 1, none⟩ = some wv
  wr : w.ownsRow base 68 1 wv N ((List.range N).map W)
  ww : ∀ i, i < N → w.ownsRow base 9 1 (W i) (n i) (rowOf bcells (lstT (n i) (Z i)))
  cn : AtP P w bb
  fz : ∀ c, w.frozen? ⟨bb, c, none⟩ = false
  hP : ∀ c u, P c u → c ≠ 0 ∧ c ≠ 1
  wb : wv.ownBlock ≠ some bb
  iw : ∀ g, iv.ownBlock = some g → wv.ownBlock ≠ some g
  wk : ∀ i, i < N → (W i).ownBlock ≠ some bb

/-- All its blocks. -/
def bookTF (bb : Nat) (iv wv : Value) (N : Nat) (V W : Nat → Value) (b : Nat) : Prop := bkF bb iv N V b ∨ wv.ownBlock = some b ∨ ∃ i, i < N ∧ (W i).ownBlock = some b

section
variable {P : Nat → Value → Prop} {w w' : World} {bb base : Nat} {iv wv : Value} {N : Nat} {V W : Nat → Value} {n : Nat → Nat} {Z : Nat → Nat → ByteArray}

theorem BookT.keep (h : BookT P w bb base iv wv N V W n Z) {S : Nat → Prop} (hF : Fr S w w') (hS : ∀ b, bookTF bb iv wv N V W b → ¬ S b) : BookT P w' bb base iv wv N V W n Z where
  bk := h.bk.keep hF (fun b hb => hS b (.inl hb))
  c3 := (hF.cell (p := ⟨bb, 1, none⟩) (cell_lt h.c3) (hS _ (.inl (.inl rfl)))).trans h.c3
  wr := hF.owns h.wr (fun _ hg => hS _ (.inr (.inl hg)))
  ww := fun i hi => hF.owns (h.ww i hi) (fun _ hg => hS _ (.inr (.inr ⟨i, hi, hg⟩)))
  cn := h.cn.keep hF (hS _ (.inl (.inl rfl)))
  fz := fun c => (hF.frozen (p := ⟨bb, c, none⟩) (show bb < _ from cell_lt h.bk.c2) (hS _ (.inl (.inl rfl)))).trans (h.fz c)
  hP := h.hP
  wb := h.wb
  iw := h.iw
  wk := h.wk

theorem BookT.below (h : BookT P w bb base iv wv N V W n Z) (hF : Below w.heap.size w w') : BookT P w' bb base iv wv N V W n Z :=
  h.keep (S := fun _ => False) (Fr.of_all hF) (fun _ _ h => h)

theorem BookT.lt (h : BookT P w bb base iv wv N V W n Z) : ∀ b, bookTF bb iv wv N V W b → b < w.heap.size := by
  rintro b (hb | hb | ⟨i, hi, hb⟩)
  · exact h.bk.lt b hb
  · exact (h.wr.lt _ hb).2
  · exact ((h.ww i hi).lt _ hb).2
end


section
variable {P : Nat → Value → Prop} {w w2 w3 w5 : World} {bb base : Nat} {iv wv : Value} {N m : Nat} {V W : Nat → Value} {n : Nat → Nat} {Z : Nat → Nat → ByteArray} {v u iv' wv' : Value} {zs : List ByteArray}

/-- The blocks that one more list touches. -/
def addTF (bb : Nat) (iv wv : Value) (b : Nat) : Prop := b = bb ∨ iv.ownBlock = some b ∨ wv.ownBlock = some b

theorem book_moreT (h : BookT P w bb base iv wv N V W n Z) (hv : w.ownsRow base 9 1 v m (rowOf bcells zs)) (hz : zs.length = m) (hd : ∀ b, v.ownBlock = some b → ¬ bookTF bb iv wv N V W b)
    -- the one row grows and is laid
    (h2 : Fr (addTF bb iv wv) w w2) (hi2 : w2.ownsRow base 68 1 iv' (N + 1) ((List.range N).map V ++ [v])) (hc2 : w2.cell? ⟨bb, 0, none⟩ = some iv') (hib : iv'.ownBlock = iv.ownBlock ∨ ∀ g, iv'.ownBlock = some g → w.heap.size ≤ g)
    (hw2 : w2.ownsRow base 68 1 wv' (N + 1) ((List.range N).map W ++ [u])) (hc3 : w2.cell? ⟨bb, 1, none⟩ = some wv') (hwb : wv'.ownBlock = wv.ownBlock ∨ ∀ g, wv'.ownBlock = some g → w.heap.size ≤ g)
    (hiw : ∀ g, iv'.ownBlock = some g → wv'.ownBlock ≠ some g) (hu : w2.ownsRow base 9 1 u m (rowOf bcells zs)) (hub : ∀ g, u.ownBlock = some g → w.heap.size ≤ g)
    (hcn : AtP P w2 bb) (hfz : ∀ c, w2.frozen? ⟨bb, c, none⟩ = false) :
    BookT P w2 bb base iv' wv' (N + 1) (fun i => if i = N then v else V i) (fun i => if i = N then u else W i) (fun i => if i = N then m else n i) (fun i => if i = N then HL.el zs else Z i) := by
  have hbb : bb < w.heap.size := cell_lt h.bk.c2
  have hrow : rowOf bcells (lstT m (HL.el zs)) = rowOf bcells zs := by rw [← hz, lstT_of]
  have hv2 : w2.ownsRow base 9 1 v m (rowOf bcells zs) := h2.owns hv (fun g hg e => by
    refine hd g hg ?_
    rcases e with e | e | e
    · exact .inl (.inl e)
    · exact .inl (.inr (.inl e))
    · exact .inr (.inl e))
  have hV2 : ∀ i, i < N → w2.ownsRow base 9 1 (V i) (n i) (rowOf bcells (lstT (n i) (Z i))) := fun i hi => h2.owns (h.bk.kk i hi) (fun g hg e => by
    rcases e with e | e | e
    · exact h.bk.kb i hi (by rw [← e]; exact hg)
    · exact owns_apart (h.bk.kk i hi) h.bk.ri (by decide) hg e
    · exact owns_apart (h.bk.kk i hi) h.wr (by decide) hg e)
  have hW2 : ∀ i, i < N → w2.ownsRow base 9 1 (W i) (n i) (rowOf bcells (lstT (n i) (Z i))) := fun i hi => h2.owns (h.ww i hi) (fun g hg e => by
    rcases e with e | e | e
    · exact h.wk i hi (by rw [← e]; exact hg)
    · exact owns_apart (h.ww i hi) h.bk.ri (by decide) hg e
    · exact owns_apart (h.ww i hi) h.wr (by decide) hg e)
  refine ⟨⟨hc2, by rw [upd_row]; exact hi2, ?_, ?_, ?_, ?_⟩, hc3, by rw [upd_row]; exact hw2, ?_, hcn, hfz, h.hP, ?_, hiw, ?_⟩
  · intro i hi
    by_cases e : i = N
    · subst e
      simp only [if_true]
      rw [hrow]
      exact hv2
    · simp only [if_neg e]
      exact hV2 i (by omega)
  · intro i j g hi hj hij
    by_cases ei : i = N
    · subst ei
      have ej : j ≠ i := fun e => hij e.symm
      simp only [if_true, if_neg ej]
      exact fun hg hjg => hd g hg (.inl (.inr (.inr ⟨j, by omega, hjg⟩)))
    · by_cases ej : j = N
      · subst ej
        simp only [if_true, if_neg ei]
        exact fun hg hjg => hd g hjg (.inl (.inr (.inr ⟨i, by omega, hg⟩)))
      · simp only [if_neg ei, if_neg ej]
        exact h.bk.kd i j g (by omega) (by omega) hij
  · rcases hib with e | e
    · rw [e]; exact h.bk.ib
    · intro hg
      have := e bb hg
      omega
  · intro i hi
    by_cases e : i = N
    · subst e
      simp only [if_true]
      exact fun hg => hd bb hg (.inl (.inl rfl))
    · simp only [if_neg e]
      exact h.bk.kb i (by omega)
  · intro i hi
    by_cases e : i = N
    · subst e
      simp only [if_true]
      rw [hrow]
      exact hu
    · simp only [if_neg e]
      exact hW2 i (by omega)
  · rcases hwb with e | e
    · rw [e]; exact h.wb
    · intro hg
      have := e bb hg
      omega
  · intro i hi
    by_cases e : i = N
    · subst e
      simp only [if_true]
      intro hg
      have := hub bb hg
      omega
    · simp only [if_neg e]
      exact h.wk i (by omega)
end

/-- Behind the first of the two stores. -/
structure SuT (P : Nat → Value → Prop) (w w4 : World) (bb base : Nat) (iv wv iv' : Value) (N : Nat) (V W : Nat → Value) (v : Value) : Prop where
  fr : Fr (addTF bb iv wv) w w4
  ri : w4.ownsRow base 68 1 iv' (N + 1) ((List.range N).map V ++ [v])
  c2 : w4.cell? ⟨bb, 0, none⟩ = some iv'
  c3 : w4.cell? ⟨bb, 1, none⟩ = some wv
  fz : ∀ c, w4.frozen? ⟨bb, c, none⟩ = false
  cn : AtP P w4 bb
  wr : w4.ownsRow base 68 1 wv N ((List.range N).map W)
  ib : iv'.ownBlock ≠ some bb
  lo : iv'.ownBlock = iv.ownBlock ∨ ∀ g, iv'.ownBlock = some g → w.heap.size ≤ g
  iw : ∀ g, iv'.ownBlock = some g → wv.ownBlock ≠ some g

theorem stageT1 {P : Nat → Value → Prop} {w w3 : World} {o : Obj} {bb base : Nat} {iv wv v : Value} {N g cap : Nat} {V W : Nat → Value} {n : Nat → Nat} {Z : Nat → Nat → ByteArray} (h : BookT P w bb base iv wv N V W n Z) (hgr : (w.alloc o).grownBy w3 iv.ownBlock)
    (ho : w3.ownsRow base 68 1 (.slice (some ⟨g, 0, none⟩) (N + 1) cap) (N + 1) ((List.range N).map V ++ [v])) (hat : iv.ownBlock = some g ∨ g = (w.alloc o).heap.size) :
    SuT P w (w3.setCell ⟨bb, 0, none⟩ (.slice (some ⟨g, 0, none⟩) (N + 1) cap)) bb base iv wv (.slice (some ⟨g, 0, none⟩) (N + 1) cap) N V W v := by
  have hbb : bb < w.heap.size := cell_lt h.bk.c2
  have hg : w.heap.size ≤ g ∨ iv.ownBlock = some g := by
    rcases hat with e | e
    · exact .inr e
    · simp at e
      exact .inl (by omega)
  have hgb : g ≠ bb := by
    rintro rfl
    rcases hg with e | e
    · omega
    · exact h.bk.ib e
  have hob : (Value.slice (some ⟨g, 0, none⟩) (N + 1) cap).ownBlock = some g := rfl
  have F3 : Fr (fun b => iv.ownBlock = some b) w w3 := Fr.trans ((Fr.refl (fun b => iv.ownBlock = some b) w).alloc o) (Fr.of_grown hgr (S := fun b => iv.ownBlock = some b) (fun _ _ h => h)) (fun b hb _ => hb)
  have F4 : Fr (fun b => b = bb) w3 (w3.setCell ⟨bb, 0, none⟩ (.slice (some ⟨g, 0, none⟩) (N + 1) cap)) := (Fr.refl (fun b => b = bb) w3).setCell (p := ⟨bb, 0, none⟩) (fun _ => rfl) _
  have pg := fun c => past_grow (c := c) hbb h.bk.ib hgr
  have ne : ∀ c, c ≠ 0 → (⟨bb, c, none⟩ : Addr) ≠ ⟨bb, 0, none⟩ := fun c hc e => hc (by injection e)
  refine ⟨?_, ?_, ?_, ?_, ?_, ?_, ?_, ?_, ?_, ?_⟩
  · exact Fr.trans (F3.mono (T := addTF bb iv wv) (fun b _ hb => .inr (.inl hb))) F4 (fun b hb _ => .inl hb)
  · exact F4.owns ho (fun b hb e => by rw [hob] at hb; injection hb with hb; exact hgb (hb.trans e))
  · exact cell_set_same _ _ _ _ ((pg 0).1.trans h.bk.c2)
  · rw [World.cell?_setCell_other _ _ _ _ (ne 1 (by omega)).symm]; exact (pg 1).1.trans h.c3
  · intro c; rw [frozen_set]; exact (pg c).2.trans (h.fz c)
  · intro c u hc
    rw [World.cell?_setCell_other _ _ _ _ (ne c (h.hP c u hc).1).symm]
    exact (pg c).1.trans (h.cn c u hc)
  · exact F4.owns (F3.owns h.wr (fun b hb e => h.iw b e hb)) (fun b hb e => h.wb (by rw [← (show b = bb from e)]; exact hb))
  · rw [hob]; exact fun e => hgb (by injection e)
  · rw [hob]
    rcases hg with e | e
    · exact .inr (fun b hb => by injection hb with hb; omega)
    · exact .inl e.symm
  · intro b hb hw
    rw [hob] at hb
    injection hb with hb
    subst hb
    rcases hg with e | e
    · have := (h.wr.lt _ hw).2
      omega
    · exact h.iw _ e hw

theorem stageT2 {P : Nat → Value → Prop} {w w4 w5 w6 : World} {o : Obj} {bb base : Nat} {iv wv v iv' u : Value} {N g cap m : Nat} {V W : Nat → Value} {n : Nat → Nat} {Z : Nat → Nat → ByteArray} {zs : List ByteArray} (h : BookT P w bb base iv wv N V W n Z) (hv : w.ownsRow base 9 1 v m (rowOf bcells zs)) (hz : zs.length = m) (hd : ∀ b, v.ownBlock = some b → ¬ bookTF bb iv wv N V W b)
    (s : SuT P w w4 bb base iv wv iv' N V W v) (hb5 : Below w4.heap.size w4 w5) (hu : w5.ownsRow w4.heap.size 9 1 u m (rowOf bcells zs)) (hgr : (w5.alloc o).grownBy w6 wv.ownBlock)
    (ho : w6.ownsRow base 68 1 (.slice (some ⟨g, 0, none⟩) (N + 1) cap) (N + 1) ((List.range N).map W ++ [u])) (hat : wv.ownBlock = some g ∨ g = (w5.alloc o).heap.size) (hbase : base ≤ w.heap.size) :
    BookT P (w6.setCell ⟨bb, 1, none⟩ (.slice (some ⟨g, 0, none⟩) (N + 1) cap)) bb base iv' (.slice (some ⟨g, 0, none⟩) (N + 1) cap) (N + 1) (fun i => if i = N then v else V i) (fun i => if i = N then u else W i) (fun i => if i = N then m else n i) (fun i => if i = N then HL.el zs else Z i) ∧
      Fr (addTF bb iv wv) w (w6.setCell ⟨bb, 1, none⟩ (.slice (some ⟨g, 0, none⟩) (N + 1) cap)) ∧
      (∀ b, bookTF bb iv' (.slice (some ⟨g, 0, none⟩) (N + 1) cap) (N + 1) (fun i => if i = N then v else V i) (fun i => if i = N then u else W i) b → bookTF bb iv wv N V W b ∨ v.ownBlock = some b ∨ w.heap.size ≤ b) := by
  have hbb4 : bb < w4.heap.size := cell_lt s.c2
  have hs4 := s.fr.size
  have hs5 := hb5.size
  have hbb5 : bb < w5.heap.size := by omega
  have hg : w.heap.size ≤ g ∧ w5.heap.size ≤ g ∨ wv.ownBlock = some g := by
    rcases hat with e | e
    · exact .inr e
    · simp at e
      exact .inl (by omega)
  have hgb : g ≠ bb := by
    rintro rfl
    rcases hg with e | e
    · omega
    · exact h.wb e
  have hob : (Value.slice (some ⟨g, 0, none⟩) (N + 1) cap).ownBlock = some g := rfl
  have F5 : Fr (fun _ => False) w4 w5 := Fr.of_all hb5
  have F6 : Fr (fun b => wv.ownBlock = some b) w5 w6 := Fr.trans ((Fr.refl (fun b => wv.ownBlock = some b) w5).alloc o) (Fr.of_grown hgr (S := fun b => wv.ownBlock = some b) (fun _ _ h => h)) (fun b hb _ => hb)
  have F7 : Fr (fun b => b = bb) w6 (w6.setCell ⟨bb, 1, none⟩ (.slice (some ⟨g, 0, none⟩) (N + 1) cap)) := (Fr.refl (fun b => b = bb) w6).setCell (p := ⟨bb, 1, none⟩) (fun _ => rfl) _
  have pc : ∀ c, w6.cell? ⟨bb, c, none⟩ = w4.cell? ⟨bb, c, none⟩ := fun c => (past_grow (c := c) hbb5 h.wb hgr).1.trans (F5.cell (p := ⟨bb, c, none⟩) hbb4 (fun h => h))
  have pf : ∀ c, w6.frozen? ⟨bb, c, none⟩ = w4.frozen? ⟨bb, c, none⟩ := fun c => (past_grow (c := c) hbb5 h.wb hgr).2.trans (F5.frozen (p := ⟨bb, c, none⟩) hbb4 (fun h => h))
  have ne : ∀ c, c ≠ 1 → (⟨bb, c, none⟩ : Addr) ≠ ⟨bb, 1, none⟩ := fun c hc e => hc (by injection e)
  have hub : ∀ b, u.ownBlock = some b → w4.heap.size ≤ b := fun b hb => (hu.lt b hb).1
  have hfr : Fr (addTF bb iv wv) w (w6.setCell ⟨bb, 1, none⟩ (.slice (some ⟨g, 0, none⟩) (N + 1) cap)) :=
    Fr.trans s.fr (Fr.trans (F5.mono (T := addTF bb iv wv) (fun _ _ h => h.elim)) (Fr.trans (F6.mono (T := addTF bb iv wv) (fun b _ hb => .inr (.inr hb))) F7 (fun b hb _ => .inl hb)) (fun b hb _ => hb)) (fun b hb _ => hb)
  have hlo : (Value.slice (some ⟨g, 0, none⟩) (N + 1) cap).ownBlock = wv.ownBlock ∨ ∀ b, (Value.slice (some ⟨g, 0, none⟩) (N + 1) cap).ownBlock = some b → w.heap.size ≤ b := by
    rw [hob]
    rcases hg with e | e
    · exact .inr (fun b hb => by injection hb with hb; omega)
    · exact .inl e.symm
  have hri : (w6.setCell ⟨bb, 1, none⟩ (.slice (some ⟨g, 0, none⟩) (N + 1) cap)).ownsRow base 68 1 iv' (N + 1) ((List.range N).map V ++ [v]) :=
    F7.owns (F6.owns (F5.owns s.ri (fun _ _ h => h)) (fun b hb e => s.iw b hb e)) (fun b hb e => s.ib (by rw [← (show b = bb from e)]; exact hb))
  refine ⟨book_moreT h hv hz hd hfr hri ?_ s.lo ?_ ?_ hlo ?_ ?_ (fun b hb => Nat.le_trans hs4 (hub b hb)) ?_ ?_, hfr, ?_⟩
  · rw [World.cell?_setCell_other _ _ _ _ (ne 0 (by omega)).symm, pc]; exact s.c2
  · exact F7.owns ho (fun b hb e => by rw [hob] at hb; injection hb with hb; exact hgb (hb.trans e))
  · exact cell_set_same _ _ _ _ ((pc 1).trans s.c3)
  · intro b hb hw
    rw [hob] at hw
    injection hw with hw
    subst hw
    rcases hg with e | e
    · have := ((F5.owns s.ri (fun _ _ h => h)).lt _ hb).2
      omega
    · exact s.iw _ hb e
  · exact F7.owns (F6.owns (owns_down hu (Nat.le_trans hbase hs4)) (fun b hb e => by have := hub b hb; have := (s.wr.lt b e).2; omega)) (fun b hb e => by have := hub b hb; have : b = bb := e; omega)
  · intro c u hc
    rw [World.cell?_setCell_other _ _ _ _ (ne c (h.hP c u hc).2).symm, pc]
    exact s.cn c u hc
  · intro c; rw [frozen_set, pf]; exact s.fz c
  · rintro b ((hb | hb | ⟨i, hi, hb⟩) | hb | ⟨i, hi, hb⟩)
    · exact .inl (.inl (.inl hb))
    · rcases s.lo with e | e
      · exact .inl (.inl (.inr (.inl (by rw [← e]; exact hb))))
      · exact .inr (.inr (e b hb))
    · by_cases e : i = N
      · subst e
        simp only [if_true] at hb
        exact .inr (.inl hb)
      · simp only [if_neg e] at hb
        exact .inl (.inl (.inr (.inr ⟨i, by omega, hb⟩)))
    · rcases hlo with e | e
      · exact .inl (.inr (.inl (by rw [← e]; exact hb)))
      · exact .inr (.inr (e b hb))
    · by_cases e : i = N
      · subst e
        simp only [if_true] at hb
        exact .inr (.inr (Nat.le_trans hs4 (hub b hb)))
      · simp only [if_neg e] at hb
        exact .inl (.inr (.inr ⟨i, by omega, hb⟩))

set_option maxHeartbeats 8000000 in
set_option maxRecDepth 100000 in
theorem book_texts {P : Nat → Value → Prop} (bb base : Nat) (iv wv : Value) (N : Nat) (V W : Nat → Value) (n : Nat → Nat) (Z : Nat → Nat → ByteArray) (w : World) (h : BookT P w bb base iv wv N V W n Z) (v : Value) (m : Nat) (zs : List ByteArray) (hv : w.ownsRow base 9 1 v m (rowOf bcells zs)) (hz : zs.length = m) (hm : m ≤ 10000)
    (hd : ∀ b, v.ownBlock = some b → ¬ bookTF bb iv wv N V W b) (hN : N < 250) (hbase : base ≤ w.heap.size) :
    Calls Tryz.prog 38 #[.pointer (some ⟨bb, 0, none⟩), v] w fun e w' => e = .returned (.tuple #[]) ∧ ∃ iv' wv' W' , BookT P w' bb base iv' wv' (N + 1) (fun i => if i = N then v else V i) W' (fun i => if i = N then m else n i) (fun i => if i = N then HL.el zs else Z i) ∧ Fr (addTF bb iv wv) w w' ∧
      (∀ b, bookTF bb iv' wv' (N + 1) (fun i => if i = N then v else V i) W' b → bookTF bb iv wv N V W b ∨ v.ownBlock = some b ∨ w.heap.size ≤ b) := by
  have H := Lib.hid h
  have HV := Lib.hid hv
  have HD := Lib.hid hd
  obtain ⟨ip, ic, hiv⟩ := owns_form h.bk.ri
  obtain ⟨wp', wc, hwv⟩ := owns_form h.wr
  obtain ⟨vp, vc, hvv⟩ := owns_form hv
  have hvn := owns_nil0' hv hvv
  subst hiv hwv hvv
  have HVN := Lib.hid hvn
  have c2 := h.bk.c2
  have f2 := h.fz 0
  have hlt := cell_lt c2
  clear h hv hd hvn
  go_enter Tryz.func38, Tryz.ntmps38
  go_wp2_with (at_builtin; refine append_sliceT2 rfl _ _ rfl base (.slice ip N ic) N ((List.range N).map V) rfl (H.out.bk.ri.alloc _) w.heap.size (.slice vp m vc) rfl (slice_cellT w _) rfl (by omega) (by simp; omega) ?_; intro g3 c3 w3 hown3 hgr3 hat3; have d2 := (past_grow (c := 0) hlt H.out.bk.ib hgr3).1.trans c2; have e2 := (past_grow (c := 0) hlt H.out.bk.ib hgr3).2.trans f2; have HST := Lib.hid (stageT1 H.out hgr3 hown3 hat3); clear hown3 hgr3 hat3)
  clear d2 e2 c2 f2
  generalize hw4 : w3.setCell ⟨bb, 0, none⟩ (.slice (some ⟨g3, 0, none⟩) (N + 1) c3) = w4 at *
  clear hw4
  have x3 := HST.out.c3
  have hl4 := cell_lt x3
  have HV4 := Lib.hid (HST.out.fr.owns HV.out (fun g hg e => by
    refine HD.out g hg ?_
    rcases e with e | e | e
    · exact .inl (.inl e)
    · exact .inl (.inr (.inl e))
    · exact .inr (.inl e)))
  have HCP := Lib.hid (copy_texts vp m vc zs w4.drew (RdT.of_own HV4.out.drew hz) HVN.out (by omega))
  go_wp2
  go_region_law (first
    | (refine step_append_sliceT rfl _ _ rfl base (.slice wp' N wc) N ((List.range N).map W) rfl (HW5.out.alloc _) w5.heap.size (.slice up m uc) rfl (slice_cellT w5 _) rfl (by omega) (by have := HS5.out; simp; omega) ?_; intro g6 c6 w6 hown6 hgr6 hat6; have z3 := (past_grow (c := 1) HL5.out H.out.wb hgr6).1.trans HX5.out; have zf := (past_grow (c := 1) HL5.out H.out.wb hgr6).2.trans HF5.out; have HEND := Lib.hid (stageT2 H.out HV.out hz HD.out HST.out HB5.out HU5.out hgr6 hown6 hat6 hbase); clear hown6 hgr6 hat6)
    | (go_simp; go_at_call 102; refine HCP.out.mono ?_; rintro e w5 ⟨u, rfl, hou, hb5⟩; obtain ⟨up, uc, hu⟩ := owns_form hou; subst hu; have HB5 : Hid (Below w4.heap.size w4 w5) := Lib.hid (((Below.refl _ w4).drew).trans hb5); have HU5 : Hid (w5.ownsRow w4.heap.size 9 1 (.slice up m uc) m (rowOf bcells zs)) := Lib.hid hou; have x5 : w5.cell? ⟨bb, 1, none⟩ = some (.slice wp' N wc) := (HB5.out.cell (p := ⟨bb, 1, none⟩) hl4).trans HST.out.c3; have HX5 := Lib.hid x5; have HF5 : Hid (w5.frozen? ⟨bb, 1, none⟩ = false) := Lib.hid (((Fr.of_all (S := fun _ => False) HB5.out).frozen (p := ⟨bb, 1, none⟩) hl4 (fun h => h)).trans (HST.out.fz 1)); have l5 := cell_lt x5; have HL5 := Lib.hid l5; have HW5 := Lib.hid ((Fr.of_all (S := fun _ => False) HB5.out).owns HST.out.wr (fun _ _ h => h)); have HS5 : Hid (base ≤ w5.heap.size) := Lib.hid (Nat.le_trans hbase (Nat.le_trans HST.out.fr.size HB5.out.size)); clear hou hb5))
  all_goals
    go_end0
    exact ⟨rfl, _, _, _, HEND.out.1, HEND.out.2.1, HEND.out.2.2⟩
end Go.Proofs.YtedcpckocedcoaaGreat
