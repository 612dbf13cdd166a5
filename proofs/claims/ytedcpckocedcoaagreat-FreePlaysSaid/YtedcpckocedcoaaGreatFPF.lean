/- FreePlays: the Book keeps a list, or is full. -/
import Derived.Test.YtedcpckocedcoaaGreatFPE
namespace Go.Proofs.YtedcpckocedcoaaGreat
open Go.RowKit

set_option maxRecDepth 100000 in
theorem bookN_full {w : World} {bb base : Nat} {F : Nat → Prop} (h : BookN w bb base 250 F) (v : Value) : Calls Tryz.prog 24 #[.pointer (some ⟨bb, 0, none⟩), v] w fun e w' => e = .returned (.tuple #[]) ∧ w' = w := by
  obtain ⟨iv, wv, V, W, n, Z, hb, _⟩ := h
  obtain ⟨ip, ic, hiv⟩ := owns_form hb.bk.ri
  have c2 := hb.bk.c2
  rw [hiv] at c2
  clear hb hiv
  go_enter Tryz.func24, Tryz.ntmps24
  go_wp2
  go_end0
  exact ⟨rfl, rfl⟩

/-- A list of the law's own is kept; it stays as it is, and so do the step's own blocks but this one. -/
theorem fp_keep {w : World} {fb rb bb i m b2 : Nat} {O : Nat → Prop} {W : World} {v : Value} {zs : List Int} (h : FPI w fb rb bb i O W) (hv : W.ownsRow b2 3 1 v m (rowOf ncells zs)) (hz : zs.length = m) (hm : m ≤ 10000) (hO : ∀ g, v.ownBlock = some g → O g) (hb2 : w.heap.size ≤ b2) (hbb : bb < b2) :
    Calls Tryz.prog 24 #[.pointer (some ⟨bb, 0, none⟩), v] W fun e w' => e = .returned (.tuple #[]) ∧ FPI w fb rb bb i (fun j => O j ∧ ¬ v.ownBlock = some j) w' ∧ Fr (fun j => ¬ O j) W w' ∧ w'.ownsRow b2 3 1 v m (rowOf ncells zs) ∧ Below w.heap.size w w' := by
  obtain ⟨N, np, l, ws, D, P, Fq, lv, wv, pv, Fk, h, h1, h2, h3, h4, h5⟩ := h
  rcases Nat.lt_or_ge N 250 with hN | hN
  · refine (bookN_more h.k v b2 m zs hv hz hm (fun b e => (h5 b (hO b e)).2.2.2) hN hb2 h.bb).mono ?_
    rintro e w' ⟨rfl, hk, hkp, hF⟩
    have hA := h.toA.setk hk hF hkp.bel (fun b e => ⟨(h5 b (hO b e)).2.1, (h5 b (hO b e)).2.2.1⟩)
    refine ⟨rfl, ⟨N + 1, np, l, ws, D, P, Fq, lv, wv, pv, _, hA.toW h.pins h.ps, by omega, h2, h3, h4, fun j hj => ?_⟩, hF.mono (fun i _ hi hOi => (h5 i hOi).2.2.2 hi), hkp.own _ _ _ _ hv (fun e => ?_), hA.bel⟩
    · obtain ⟨a, b, c, d⟩ := h5 j hj.1
      refine ⟨Nat.lt_of_lt_of_le a hF.size, b, c, fun e => ?_⟩
      rcases e with e | e | e
      · exact d e
      · exact hj.2 e
      · omega
    · have := (hv.lt bb e).1
      omega
  · obtain rfl : N = 250 := by omega
    refine (bookN_full h.k v).mono ?_
    rintro e w' ⟨rfl, rfl⟩
    exact ⟨rfl, ⟨250, np, l, ws, D, P, Fq, lv, wv, pv, Fk, h, h1, h2, h3, h4, fun j hj => h5 j hj.1⟩, Fr.refl _ _, hv, h.bel⟩

/-- List and All. -/
theorem fp_lists {w : World} {fb rb bb i : Nat} {O : Nat → Prop} {W : World} (h : FPI w fb rb bb i O W) (hi : i ≤ 150) : ∃ (l : List Int) (ws : List (Int × Int)),
    l.length + ws.length ≤ 10000 ∧
    (∀ W', Below W.heap.size W W' → Calls Tryz.prog 22 #[.pointer (some ⟨fb, 0, none⟩)] W' fun e w' => ∃ u, e = .returned u ∧ w'.ownsRow W'.heap.size 3 1 u l.length (rowOf ncells (CL.srt l)) ∧ Below W'.heap.size W' w') ∧
    (∀ W', Below W.heap.size W W' → Calls Tryz.prog 23 #[.pointer (some ⟨fb, 0, none⟩)] W' fun e w' => ∃ u, e = .returned u ∧ w'.ownsRow W'.heap.size 3 1 u (l.length + ws.length) (rowOf ncells (CL.srt (l ++ pagesOf ws))) ∧ Below W'.heap.size W' w') := by
  obtain ⟨N, np, l, ws, D, P, Fq, lv, wv, pv, Fk, h, h1, h2, h3, h4, h5⟩ := h
  exact ⟨l, ws, by omega, fun W' hW => fe_list (h.f.below hW), fun W' hW => fe_all (h.f.below hW) (by omega)⟩
end Go.Proofs.YtedcpckocedcoaaGreat
