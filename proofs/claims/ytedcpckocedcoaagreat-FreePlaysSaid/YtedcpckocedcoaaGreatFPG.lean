/- FreePlays: the state with its lists shown; what a step asks at its end. -/
import Derived.Test.YtedcpckocedcoaaGreatFPS
namespace Go.Proofs.YtedcpckocedcoaaGreat
open Go.RowKit

def FPJ (w : World) (fb rb bb i : Nat) (l : List Int) (ws : List (Int × Int)) (O : Nat → Prop) (W : World) : Prop :=
  ∃ N np D P Fq lv wv pv Fk, FPW w W fb rb bb N np l ws D P Fq lv wv pv Fk ∧ N ≤ 250 ∧ np ≤ i ∧ P.length ≤ i ∧ l.length + ws.length ≤ 100 + 60 * i ∧ ∀ j, O j → j < W.heap.size ∧ ¬ Fq j ∧ ¬ rfF rb lv wv pv j ∧ ¬ Fk j

section
variable {w W W' : World} {fb rb bb i : Nat} {l : List Int} {ws : List (Int × Int)} {O O' : Nat → Prop}
theorem FPI.shown (h : FPI w fb rb bb i O W) : ∃ l ws, FPJ w fb rb bb i l ws O W := by
  obtain ⟨N, np, l, ws, D, P, Fq, lv, wv, pv, Fk, h⟩ := h
  exact ⟨l, ws, N, np, D, P, Fq, lv, wv, pv, Fk, h⟩
theorem FPJ.hide (h : FPJ w fb rb bb i l ws O W) : FPI w fb rb bb i O W := by
  obtain ⟨N, np, D, P, Fq, lv, wv, pv, Fk, h⟩ := h
  exact ⟨N, np, l, ws, D, P, Fq, lv, wv, pv, Fk, h⟩
theorem FPJ.len (h : FPJ w fb rb bb i l ws O W) : l.length + ws.length ≤ 100 + 60 * i := by
  obtain ⟨N, np, D, P, Fq, lv, wv, pv, Fk, _, _, _, _, h, _⟩ := h
  exact h
theorem FPJ.bel (h : FPJ w fb rb bb i l ws O W) : Below w.heap.size w W := h.hide.bel
theorem FPJ.new (h : FPJ w fb rb bb i l ws O W) (hb : Below W.heap.size W W') (hO : ∀ j, O' j → O j ∨ (W.heap.size ≤ j ∧ j < W'.heap.size)) : FPJ w fb rb bb i l ws O' W' := by
  obtain ⟨N, np, D, P, Fq, lv, wv, pv, Fk, h, h1, h2, h3, h4, h5⟩ := h
  have hA := (h.toA).below hb
  refine ⟨N, np, D, P, Fq, lv, wv, pv, Fk, hA.toW h.pins h.ps, h1, h2, h3, h4, fun j hj => ?_⟩
  rcases hO j hj with e | e
  · obtain ⟨a, b, c, d⟩ := h5 j e
    exact ⟨Nat.lt_of_lt_of_le a hb.size, b, c, d⟩
  · exact ⟨e.2, fun e2 => by have := h.f.lt j e2; omega, fun e2 => by have := h.r.lt j e2; omega, fun e2 => by have := h.k.lt j e2; omega⟩

/-- A list of the law's own is kept; it stays as it is, and so do the step's own blocks. -/
theorem fj_keep {m b2 : Nat} {v : Value} {zs : List Int} (h : FPJ w fb rb bb i l ws O W) (hv : W.ownsRow b2 3 1 v m (rowOf ncells zs)) (hz : zs.length = m) (hm : m ≤ 10000) (hO : ∀ g, v.ownBlock = some g → O g) (hb2 : w.heap.size ≤ b2) (hbb : bb < b2) :
    Calls Tryz.prog 24 #[.pointer (some ⟨bb, 0, none⟩), v] W fun e w' => e = .returned (.tuple #[]) ∧ FPJ w fb rb bb i l ws (fun j => O j ∧ ¬ v.ownBlock = some j) w' ∧ Fr (fun j => ¬ O j) W w' ∧ w'.ownsRow b2 3 1 v m (rowOf ncells zs) ∧ KeepInt bb w.heap.size W w' := by
  obtain ⟨N, np, D, P, Fq, lv, wv, pv, Fk, h, h1, h2, h3, h4, h5⟩ := h
  rcases Nat.lt_or_ge N 250 with hN | hN
  · refine (bookN_more h.k v b2 m zs hv hz hm (fun b e => (h5 b (hO b e)).2.2.2) hN hb2 h.bb).mono ?_
    rintro e w' ⟨rfl, hk, hkp, hF⟩
    have hA := h.toA.setk hk hF hkp.bel (fun b e => ⟨(h5 b (hO b e)).2.1, (h5 b (hO b e)).2.2.1⟩)
    refine ⟨rfl, ⟨N + 1, np, D, P, Fq, lv, wv, pv, _, hA.toW h.pins h.ps, by omega, h2, h3, h4, fun j hj => ?_⟩, hF.mono (fun i _ hi hOi => (h5 i hOi).2.2.2 hi), hkp.own _ _ _ _ hv (fun e => ?_), hkp⟩
    · obtain ⟨a, b, c, d⟩ := h5 j hj.1
      refine ⟨Nat.lt_of_lt_of_le a hF.size, b, c, fun e => ?_⟩
      rcases e with e | e | e
      · exact d e
      · exact hj.2 e
      · omega
    · have := (hv.lt bb e).1
      omega
  · obtain rfl : N = 250 := by omega
    refine (bookN_full h.k v).mono ?_
    rintro e w' ⟨rfl, rfl⟩
    exact ⟨rfl, ⟨250, np, D, P, Fq, lv, wv, pv, Fk, h, h1, h2, h3, h4, fun j hj => h5 j hj.1⟩, Fr.refl _ _, hv, ⟨fun _ _ _ _ h _ => h, Below.refl _ _⟩⟩

theorem FPJ.bbl (h : FPJ w fb rb bb i l ws O W) : w.heap.size ≤ bb ∧ bb < W.heap.size := by
  obtain ⟨N, np, D, P, Fq, lv, wv, pv, Fk, h, _⟩ := h
  exact ⟨h.bb, h.k.lt bb h.k.ptr⟩
theorem FPJ.last (h : FPJ w fb rb bb i l ws O W) : ∃ N F, N ≤ 250 ∧ BookN W bb w.heap.size N F ∧ w.heap.size ≤ bb := by
  obtain ⟨N, np, D, P, Fq, lv, wv, pv, Fk, h, hN, _⟩ := h
  exact ⟨N, Fk, hN, h.k, h.bb⟩
theorem fj_list (h : FPJ w fb rb bb i l ws O W) : Calls Tryz.prog 22 #[.pointer (some ⟨fb, 0, none⟩)] W fun e w' => ∃ u, e = .returned u ∧ w'.ownsRow W.heap.size 3 1 u l.length (rowOf ncells (CL.srt l)) ∧ Below W.heap.size W w' := by
  obtain ⟨N, np, D, P, Fq, lv, wv, pv, Fk, h, h1, h2, h3, h4, h5⟩ := h
  exact fe_list h.f
theorem fj_all (h : FPJ w fb rb bb i l ws O W) (hi : i ≤ 150) : Calls Tryz.prog 23 #[.pointer (some ⟨fb, 0, none⟩)] W fun e w' => ∃ u, e = .returned u ∧ w'.ownsRow W.heap.size 3 1 u (l.length + ws.length) (rowOf ncells (CL.srt (l ++ pagesOf ws))) ∧ Below W.heap.size W w' := by
  obtain ⟨N, np, D, P, Fq, lv, wv, pv, Fk, h, h1, h2, h3, h4, h5⟩ := h
  exact fe_all h.f (by omega)

/-- What the last region of a step reads and calls. -/
structure EndC (fb rb : Nat) (l : List Int) (ws : List (Int × Int)) (lp wp : Option Addr) (lc wc : Nat) (V : World) : Prop where
  c0 : V.cell? ⟨rb, 0, none⟩ = some (.slice lp l.length lc)
  c1 : V.cell? ⟨rb, 1, none⟩ = some (.slice wp ws.length wc)
  rd : RdI V V.heap.size lp l.length (CL.srt l)
  all : Calls Tryz.prog 26 #[.pointer (some ⟨rb, 0, none⟩)] V fun e w' => ∃ u, e = .returned u ∧ w'.ownsRow V.heap.size 3 1 u (l.length + ws.length) (rowOf ncells (CL.srt (l ++ pagesOf ws))) ∧ Below V.heap.size V w'
  len : Calls Tryz.prog 27 #[.pointer (some ⟨fb, 0, none⟩)] V fun e w' => e = .returned (.int .i64 l.length) ∧ w' = V
  wait : Calls Tryz.prog 28 #[.pointer (some ⟨fb, 0, none⟩)] V fun e w' => e = .returned (.int .i64 ws.length) ∧ w' = V

theorem fj_end (h : FPJ w fb rb bb i l ws O W) (hi : i ≤ 150) : ∃ lp wp lc wc, ∀ V, Below W.heap.size W V → EndC fb rb l ws lp wp lc wc V := by
  obtain ⟨N, np, D, P, Fq, lv, wv, pv, Fk, h, h1, h2, h3, h4, h5⟩ := h
  have hls : (CL.srt l).length = l.length := (CL.srt_perm l).length_eq
  obtain ⟨lp, lc, hl⟩ := owns_slice h.r.lo
  obtain ⟨wp, wc, hw⟩ := owns_slice h.r.wo
  subst hl hw
  refine ⟨lp, wp, lc, wc, fun V hV => ?_⟩
  have hr := h.r.below hV
  have hf := h.f.below hV
  refine ⟨by rw [← hls]; exact hr.c0, hr.c1, by rw [← hls]; exact RdI.of_own hr.lo rfl, (rf_all rb _ _ _ pv _ ws P V hr (by omega)).mono ?_, fe_len hf, fe_waiting hf⟩
  rintro e w' ⟨u, rfl, ho, hb⟩
  refine ⟨u, rfl, ?_, hb⟩
  rw [insMany_srt l (pgs ws) ws.length (by simp [pgs]), hls] at ho
  exact ho
end
end Go.Proofs.YtedcpckocedcoaaGreat
