/- A region that draws its order, whose operations only read and whose calls leave what was there: walked once. -/
import Derived.BigQuiet
import Derived.Test.YtedcpckocedcoaaGreatStep
namespace Go.Proofs.YtedcpckocedcoaaGreat
open Go.RowKit

/-- The worlds that keep all that w holds. -/
def Later (w : World) : Type := {W : World // Below w.heap.size w W}

instance (w : World) : Inhabited (Later w) := ⟨⟨w, Below.refl _ w⟩⟩

theorem wp_region_later {P : Program} {id : Nat} {Q : Exit → Act → World → Prop} {a : Act} {w : World} {l : List Oper} (hm : P.follows .mixedOrders = true) (hB : Region.lexB .any l.toArray = true)
    (h : wpQuiet P l.toArray (fun w' => ∃ p : Later w, w' = p.1) (fun a' => ∀ w', (∃ p : Later w, w' = p.1) → Q .normal a' w') l a) : (Code.region id l.toArray true).wp P Q a w :=
  wp_region_quiet (C := fun w' => ∃ p : Later w, w' = p.1) hm hB ⟨⟨w.drew, ((Fr.refl (fun _ => False) w).drew).below (Nat.le_refl _) (fun _ h => h.elim)⟩, rfl⟩ (by simpa using h)

theorem Calls.later_of {P : Program} {f : FuncId} {args : Array Value} {w : World} {p : Later w} {v : Value}
    (h : Calls P f args p.1 fun e w' => e = .returned v ∧ Below p.1.heap.size p.1 w') : Calls P f args p.1 fun e w'' => e = .returned v ∧ ∃ q : Later w, w'' = q.1 :=
  h.mono fun _ w' ⟨he, hb⟩ => ⟨he, ⟨w', p.2.trans (hb.mono p.2.size)⟩, rfl⟩
theorem Calls.later_same {P : Program} {f : FuncId} {args : Array Value} {w : World} {p : Later w} {v : Value}
    (h : Calls P f args p.1 fun e w' => e = .returned v ∧ w' = p.1) : Calls P f args p.1 fun e w'' => e = .returned v ∧ ∃ q : Later w, w'' = q.1 :=
  h.mono fun _ _ ⟨he, hb⟩ => ⟨he, p, hb⟩
end Go.Proofs.YtedcpckocedcoaaGreat
