/- Only the blocks of F, and new ones, were written. -/
import Derived.Test.YtedcpckocedcoaaGreatFr
namespace Go.Proofs.YtedcpckocedcoaaGreat
open Go.RowKit

/-- Only the blocks of F, and new ones, were written; those of F' are such. -/
def Step (F F' : Nat → Prop) (w w' : World) : Prop := Fr F w w' ∧ ∀ k, F' k → F k ∨ w.heap.size ≤ k
theorem Step.refl (F : Nat → Prop) (w : World) : Step F F w w := ⟨Fr.refl _ _, fun _ h => .inl h⟩
theorem Step.trans {F F1 F2 : Nat → Prop} {w w1 w2 : World} (h : Step F F1 w w1) (k : Step F1 F2 w1 w2) : Step F F2 w w2 :=
  ⟨Fr.trans h.1 k.1 (fun i hi hlt => (h.2 i hi).resolve_right (by omega)), fun i hi => by
    rcases k.2 i hi with h1 | h1
    · exact h.2 i h1
    · exact .inr (Nat.le_trans h.1.size h1)⟩
theorem Step.still {F : Nat → Prop} {w w' : World} (h : Below w.heap.size w w') : Step F F w w' := ⟨Fr.of_all h, fun _ h => .inl h⟩
theorem Step.sub {F : Nat → Prop} {w w' : World} {db : Nat} (h : Fr (fun k => k = db) w w') (hdb : F db) : Step F F w w' := ⟨h.mono (fun i _ hi => by have : i = db := hi; rw [this]; exact hdb), fun _ h => .inl h⟩
end Go.Proofs.YtedcpckocedcoaaGreat
