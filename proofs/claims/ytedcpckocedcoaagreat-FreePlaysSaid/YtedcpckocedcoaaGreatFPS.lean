/- FreePlays: where the law begins. -/
import Derived.Test.YtedcpckocedcoaaGreatFPin
namespace Go.Proofs.YtedcpckocedcoaaGreat
open Go.RowKit

theorem rfi_new {W : World} {base n : Nat} {u : Value} {L : List Int} (ho : W.ownsRow base 3 1 u n (rowOf ncells L)) (hl : L.length = n) (hb : base ≤ W.heap.size) (T : TypeId) :
    RFI W.heap.size base u (.slice none 0 0) (.slice none 0 0) L [] [] (W.alloc (.cells #[u, .slice none 0 0, .slice none 0 0] T)) := by
  subst hl
  have hc := heap_alloc_new W (.cells #[u, .slice none 0 0, .slice none 0 0] T)
  have cc : ∀ k v, (#[u, Value.slice none 0 0, .slice none 0 0])[k]? = some v → (W.alloc (.cells #[u, .slice none 0 0, .slice none 0 0] T)).cell? ⟨W.heap.size, k, none⟩ = some v := fun k v hv => by
    rw [cell_of_row _ _ _ _ _ _ hc]; exact hv
  exact ⟨cc 0 _ rfl, cc 1 _ rfl, cc 2 _ rfl, frozen_of_row _ _ _ _ _ hc, frozen_of_row _ _ _ _ _ hc, frozen_of_row _ _ _ _ _ hc, ho.alloc _, World.ownsRow_nil _ _ _ _, World.ownsRow_nil _ _ _ _, fun e => by have := (ho.lt _ e).2; omega, (fun h => by cases h), (fun h => by cases h), by simp; omega, hb⟩

theorem Fe.less {fb base base' : Nat} {l : List Int} {ws : List (Int × Int)} {n : Nat} {D : DU} {F : Nat → Prop} {w : World} (h : Fe fb base l ws n D F w) (hb : base' ≤ base) : Fe fb base' l ws n D F w := by
  obtain ⟨v, vw, vp, h, rfl⟩ := h
  obtain ⟨⟨⟨a1, a2, a3, a4, a5, a6⟩, a7⟩, c1, f1, row, n1, c2, f2, pins, few, fbb⟩ := h
  refine ⟨v, vw, vp, ⟨⟨⟨a1, a2, owns_low a3 hb, a4, a5, Nat.le_trans hb a6⟩, a7⟩, c1, f1, owns_low row hb, n1, c2, f2, ?_, few, Nat.le_trans hb fbb⟩, rfl⟩
  rcases pins with h | ⟨b, h1, h2, h3⟩
  · exact .inl h
  · exact .inr ⟨b, h1, Nat.le_trans hb h2, h3⟩

/-- The state at the loop's head: free pages at fb, the reference at rb, a new Book. -/
theorem fp_start {w W : World} {fb rb n : Nat} {l : List Int} {Fq : Nat → Prop} {lv : Value} (hf : Fe fb w.heap.size l [] 0 (.map []) Fq W) (hr : RFI rb w.heap.size lv (.slice none 0 0) (.slice none 0 0) (CL.srt l) [] [] W) (hfr : ∀ j, Fq j → ¬ rfF rb lv (.slice none 0 0) (.slice none 0 0) j)
    (hl : l.length = n) (hn : n ≤ 100) (hbf : w.heap.size ≤ fb) (hbr : w.heap.size ≤ rb) (hb : Below w.heap.size w W) : FPI w fb rb W.heap.size 0 (fun _ => False) (W.alloc (.cells (List.replicate 22 (Value.slice none 0 0)).toArray 53)) := by
  have B : Below W.heap.size W (W.alloc (.cells (List.replicate 22 (Value.slice none 0 0)).toArray 53)) := (Below.refl _ W).alloc (Nat.le_refl _) _
  refine ⟨0, 0, l, [], .map [], [], Fq, lv, _, _, _, ⟨hf.below B, hr.below B, (bookN_new W 53).less hb.size, hfr, fun j hj e => ?_, fun j hj e => ?_, PinsR.nil, List.Pairwise.nil, hbf, hbr, hb.size, hb.trans (B.mono hb.size)⟩, by omega, by omega, by simp, by simp; omega, fun j hj => hj.elim⟩
  · have h1 := hf.lt j hj
    have h2 : j = W.heap.size := e
    omega
  · have h1 := hr.lt j hj
    have h2 : j = W.heap.size := e
    omega
end Go.Proofs.YtedcpckocedcoaaGreat
