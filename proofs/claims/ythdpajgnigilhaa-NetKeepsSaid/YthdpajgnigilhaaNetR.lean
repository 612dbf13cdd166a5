/- net's dues: heap.Remove. -/
import Derived.Test.YthdpajgnigilhaaNDuesH
import Derived.Test.YthdpajgnigilhaaHeapR
namespace Go.Proofs.Ythdpajgnigilhaa
open Go.RowKit
set_option maxHeartbeats 1000000 in
theorem heap_remove_nets (ab ao base : Nat) (v : Value) (l : List (Nd)) (i : Nat) (w : World) (h : NetsI ab ao base v l w) (hh : HL.IsHeap wlt l) (hn : i < l.length) :
    Calls Try.prog 36 #[.iface 77 (.pointer (some ⟨ab, ao, none⟩)), .int .i64 i] w fun e w' => ∃ u, e = .returned u ∧
      ∃ v' l', u = .iface 75 (dv (HL.el l i)) ∧ NetsI ab ao base v' l' w' ∧ HL.IsHeap wlt l' ∧ (HL.el l i :: l').Perm l ∧ Fr (fun k => k = ab ∨ v.ownBlock = some k) w w' ∧ v'.ownBlock = v.ownBlock ∧ Others ab ao w w' := by
  refine heap_remove (reads_rep ab ao base v) l h i (by omega) (by omega) hh ?_
  rw [Int.toNat_natCast]
  intro l' w1 hI hF hp hh'
  obtain ⟨g, cap, hv, _, hg, hcap⟩ := owns_len hI.2.2.1 (by simp)
  have hI' := hv ▸ hI
  have hx := hI'.cells rfl l'.length (by simp)
  rw [show HL.el (l' ++ [HL.el l i]) l'.length = HL.el l i from HL.el_append_right l' _] at hx
  have hlen : (l' ++ [HL.el l i]).length = l'.length + 1 := by simp
  rw [hlen] at hI' hcap
  refine ⟨_, _, inv_nets_pop _ w1, (pop_nets ab ao g l'.length cap (HL.el l i) w1 hI'.1 hI'.2.1 hx hcap (by have := hI.2.2.2.2.1; simp at this; omega)).mono ?_⟩
  rintro e w2 ⟨rfl, rfl⟩
  have hab : g ≠ ab := fun e => hI'.2.2.2.1 (by rw [e]; rfl)
  have hob : v.ownBlock = some g := by rw [hv]; rfl
  have hF2 : Fr (fun k => k = ab) w1 ((w1.setCell ⟨ab, ao, none⟩ (.slice (some ⟨g, 0, none⟩) l'.length cap)).alloc (.cells #[.int .i64 (HL.el l i).fr, .int .i64 (HL.el l i).to, .string (HL.el l i).da, .int .i64 (HL.el l i).at', .int .i64 (HL.el l i).sq] 75)) :=
    ((Fr.refl (fun k => k = ab) w1).setCell (p := ⟨ab, ao, none⟩) (fun _ => rfl) _).alloc _
  refine ⟨_, rfl, .slice (some ⟨g, 0, none⟩) l'.length cap, l', rfl, ⟨?_, ?_, ?_, fun e => hab (by simpa [Value.ownBlock] using e), by have := hI.2.2.2.2.1; simp at this; omega, Nat.le_trans hI.2.2.2.2.2 hF2.size⟩, hh', hp, ?_, hob.symm, ?_⟩
  · rw [World.cell?_alloc_lt _ _ _ (by have := cell_lt hI'.1; simpa [World.setCell] using this)]
    exact cell_set_same _ _ _ _ hI'.1
  · have hlt := cell_lt hI'.1
    have : ((w1.setCell ⟨ab, ao, none⟩ (.slice (some ⟨g, 0, none⟩) l'.length cap)).alloc (.cells #[.int .i64 (HL.el l i).fr, .int .i64 (HL.el l i).to, .string (HL.el l i).da, .int .i64 (HL.el l i).at', .int .i64 (HL.el l i).sq] 75)).frozen? ⟨ab, ao, none⟩ = (w1.setCell ⟨ab, ao, none⟩ (.slice (some ⟨g, 0, none⟩) l'.length cap)).frozen? ⟨ab, ao, none⟩ :=
      World.frozen?_of_block (Below.heap_alloc _ _ _ (by simpa [World.setCell] using hlt))
    rw [this, frozen_set]
    exact hI'.2.1
  · have ho := hF2.owns hI'.2.2.1 (fun g' hg' => by have : g = g' := by simpa [Value.ownBlock] using hg'
                                                    subst this; exact hab)
    rw [rowOf_append, hlen] at ho
    exact ownsRow_pop (rowOf_length wcells wcells_length l') ho
  · exact Fr.trans (Fr.mono hF (fun i _ hi => .inr hi)) hF2 (fun i hi _ => .inl hi)
  · have hlt := cell_lt h.1
    have hlt1 := cell_lt hI'.1
    refine (Others.of_block (hF.block ab hlt (fun e => hab (by rw [hob] at e; simpa using e)))).trans ((Others.set ab ao w1 _).trans (Others.of_block (Below.heap_alloc _ _ _ (by simpa [World.setCell] using hlt1))))
end Go.Proofs.Ythdpajgnigilhaa
