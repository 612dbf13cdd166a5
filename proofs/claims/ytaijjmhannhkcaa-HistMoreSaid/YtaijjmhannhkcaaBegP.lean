/- heap.Push and heap.Pop on hist's begins. -/
import Derived.Test.YtaijjmhannhkcaaBegH
import Derived.WalkSmall
namespace Go.Proofs.Ytaijjmhannhkcaa
open Go.RowKit

section
variable {hb base m ec : Nat} {lp : Option Addr} {zs : List Ev} {v v' : Value} {l l' : List Int} {w w' : World}

theorem beg_push (h : BegI hb base lp m ec zs v l w) (hbb : base ≤ hb) (hh : HL.IsHeap (blt zs) l) (hn : l.length < 1000000) (x : Nat) (hx : x < m) :
    Calls Try.prog 28 #[.iface 66 (.pointer (some ⟨hb, 0, none⟩)), .iface 3 (.int .i64 x)] w fun e w' => e = .returned (.tuple #[]) ∧
      ∃ v' l', BegI hb base lp m ec zs v' l' w' ∧ HL.IsHeap (blt zs) l' ∧ l'.Perm (l ++ [(x : Int)]) ∧ Below base w w' := by
  refine heap_push (lt := blt zs) ?_
  refine ⟨_, _, inv_beg_push _ _ w, (push_beg hb v base l.length (rowOf ncells l) x w h.1.1 h.1.2.1 h.1.2.2.1 h.1.2.2.2.1 (by omega) h.1.2.2.2.2.2).mono ?_⟩
  rintro e w1 ⟨rfl, g, cap, hc, hf, ho, hfr, hl, hg, hoth⟩
  have hS : ∀ k, (k = hb ∨ v.ownBlock = some k) → base ≤ k := fun k hk => by
    rcases hk with rfl | hk
    · exact hbb
    · exact (h.1.2.2.1.lt k hk).1
  have hb1 : Below base w w1 := hfr.below h.1.2.2.2.2.2 hS
  have hA : AtI hb base (.slice (some ⟨g, 0, none⟩) (l.length + 1) cap) (l ++ [(x : Int)]) w1 := ⟨hc, hf, by rw [rowOf_append, rowOf_one, List.length_append]; exact ho, fun e => hg (by simpa [Value.ownBlock] using e), by simp; omega, Nat.le_trans h.1.2.2.2.2.2 hfr.size⟩
  refine ⟨_, rfl, BegI hb base lp m ec zs (.slice (some ⟨g, 0, none⟩) (l.length + 1) cap), OwnB (.slice (some ⟨g, 0, none⟩) (l.length + 1) cap), l, (x : Int), beg_rep hb base lp m ec zs _, h.turn hA hfr (hoth 0 (by omega)).1 hS (fun y hy => ?_), hh, ?_⟩
  · rcases List.mem_append.1 hy with hy | hy
    · exact h.2.2.2 y hy
    · have hy : y = (x : Int) := by simpa using hy
      subst hy
      omega
  · intro l' w2 hI hF hp hh'
    have hgb : base ≤ g := (ho.lt g rfl).1
    exact ⟨_, l', hI, hh', hp, hb1.trans (hF.below hA.2.2.2.2.2 (fun k hk => by
      have : g = k := by simpa [Value.ownBlock] using hk
      omega))⟩

theorem beg_pop (h : BegI hb base lp m ec zs v l w) (hbb : base ≤ hb) (hh : HL.IsHeap (blt zs) l) (hn : 0 < l.length) :
    Calls Try.prog 30 #[.iface 66 (.pointer (some ⟨hb, 0, none⟩))] w fun e w' => ∃ u, e = .returned u ∧
      ∃ v' l', u = .iface 3 (.int .i64 (HL.el l 0)) ∧ BegI hb base lp m ec zs v' l' w' ∧ HL.IsHeap (blt zs) l' ∧ (HL.el l 0 :: l').Perm l ∧ Fr (fun k => k = hb ∨ v.ownBlock = some k) w w' ∧ v'.ownBlock = v.ownBlock := by
  refine heap_pop (beg_rep hb base lp m ec zs v) l h hn hh fun l' w1 hI hF hp hh' => ?_
  obtain ⟨g, cap, hv, _, hg, hcap⟩ := owns_len hI.1.2.2.1 (by simp)
  have hA : AtI hb base (.slice (some ⟨g, 0, none⟩) (l' ++ [HL.el l 0]).length cap) (l' ++ [HL.el l 0]) w1 := hv ▸ hI.1
  have hx := hA.cells rfl l'.length (by simp)
  rw [show HL.el (l' ++ [HL.el l 0]) l'.length = HL.el l 0 from HL.el_append_right l' _] at hx
  have hlen : (l' ++ [HL.el l 0]).length = l'.length + 1 := by simp
  rw [hlen] at hA hcap
  refine ⟨_, _, inv_beg_pop _ w1, (pop_beg hb g l'.length cap (HL.el l 0) w1 hA.1 hA.2.1 hx hcap (by have := hI.1.2.2.2.2.1; simp at this; omega)).mono ?_⟩
  rintro e w2 ⟨rfl, rfl⟩
  have hab : g ≠ hb := fun e => hA.2.2.2.1 (by rw [e]; rfl)
  have hob : v.ownBlock = some g := by rw [hv]; rfl
  have hF2 : Fr (fun k => k = hb) w1 (w1.setCell ⟨hb, 1, none⟩ (.slice (some ⟨g, 0, none⟩) l'.length cap)) := (Fr.refl (fun k => k = hb) w1).setCell (p := ⟨hb, 1, none⟩) (fun _ => rfl) _
  have hA2 : AtI hb base (.slice (some ⟨g, 0, none⟩) l'.length cap) l' (w1.setCell ⟨hb, 1, none⟩ (.slice (some ⟨g, 0, none⟩) l'.length cap)) := by
    refine ⟨cell_set_same _ _ _ _ hA.1, by rw [frozen_set]; exact hA.2.1, ?_, fun e => hab (by simpa [Value.ownBlock] using e), by have := hI.1.2.2.2.2.1; simp at this; omega, Nat.le_trans hI.1.2.2.2.2.2 hF2.size⟩
    have ho := hF2.owns hA.2.2.1 (fun g' hg' => by
      have : g = g' := by simpa [Value.ownBlock] using hg'
      subst this; exact hab)
    rw [rowOf_append, hlen] at ho
    exact ownsRow_pop (rowOf_length ncells ncells_length l') ho
  refine ⟨_, rfl, .slice (some ⟨g, 0, none⟩) l'.length cap, l', rfl, ?_, hh', hp, ?_, hob.symm⟩
  · refine hI.turn hA2 hF2 ?_ (fun k hk => by have hk : k = hb := hk; omega) (fun x hx => hI.2.2.2 x (List.mem_append_left _ hx))
    exact (Others.set hb 1 w1 _ 0 (by omega)).1
  · exact Fr.trans (Fr.mono hF (fun i _ hi => .inr hi)) hF2 (fun i hi _ => .inl hi)
end
end Go.Proofs.Ytaijjmhannhkcaa
