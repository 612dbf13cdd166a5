/- Large regions made light: the places and edges of operations that a walk in the text's order does not look at are struck. -/
import Derived.Test.YtjpmebfegpmccaaFr
namespace Go.Proofs.Ytjpmebfegpmccaa
open Go.RowKit

/-- An operation without its place and its edges. -/
def bare (o : Oper) : Oper := ⟨o.dst, o.op, o.type, "", #[], o.guard⟩
/-- Of an operation, the slot alone. -/
def ghost (o : Oper) : Oper := ⟨o.dst, .move (.const undef), 0, "", #[], none⟩

theorem yielded_ghost (l : List Oper) (tmps : Array Value) (j : Nat) : yielded (l.map ghost).toArray tmps j = yielded l.toArray tmps j := by
  unfold yielded
  have : ((l.map ghost).toArray[j]?).bind (·.dst) = (l.toArray[j]?).bind (·.dst) := by
    simp only [List.getElem?_toArray, List.getElem?_map]
    cases l[j]? <;> rfl
  rw [this]

theorem wanted_bare (o : Oper) (f g : Nat → Option Bool) (h : ∀ j, f j = g j) : Region.wanted (bare o) f = Region.wanted o g := by
  have : f = g := funext h
  subst this
  rfl

section
variable {P : Program} {V w : World}
theorem wpStill_light {Q : Act → Prop} (L : List Oper) : ∀ (l : List Oper) (a : Act), wpStill P (L.map ghost).toArray V Q (l.map bare) a → wpStill P L.toArray V Q l a
  | [], _, h => h
  | o :: l, a, h => by
    unfold wpStill
    simp only [List.map_cons] at h
    unfold wpStill at h
    rw [wanted_bare o _ _ (yielded_ghost L a.tmps)] at h
    split
    · rename_i hw
      rw [if_pos hw] at h
      exact Oper.still_mono (fun a' h' => wpStill_light L l a' h') (show o.still P a V _ from h)
    · rename_i hw
      rw [if_neg hw] at h
      exact wpStill_light L l _ h

theorem wpList_light {Q : Exit → Act → World → Prop} (L : List Oper) : ∀ (l : List Oper) (a : Act) (w : World), wpList P (L.map ghost).toArray Q (l.map bare) a w → wpList P L.toArray Q l a w
  | [], _, _, h => h
  | o :: l, a, w, h => by
    unfold wpList
    simp only [List.map_cons] at h
    unfold wpList at h
    rw [wanted_bare o _ _ (yielded_ghost L a.tmps)] at h
    split
    · rename_i hw
      rw [if_pos hw] at h
      rcases h with h | h
      · exact .inl (Oper.wp_mono (fun a' w' h' => wpList_light L l a' w' h') (show o.wp P a w _ Q from h))
      · exact .inr h
    · rename_i hw
      rw [if_neg hw] at h
      exact wpList_light L l _ _ h

/-- A region in the text's order, its operations made light. -/
theorem region_light {id : Nat} {Q : Exit → Act → World → Prop} {a : Act} {l : List Oper} (h : wpList P (l.map ghost).toArray Q (l.map bare) a w) : (Code.region id l.toArray false).wp P Q a w :=
  wp_region_lit (wpList_light l l a w h)

/-- A region that draws its order and only reads or calls quietly, its operations made light. -/
theorem region_still {id : Nat} {Q : Exit → Act → World → Prop} {a : Act} {l : List Oper} (hm : P.follows .mixedOrders = true) (hB : Region.lexB .any l.toArray = true)
    (S : World → Prop) (hS : S w.drew) (h : ∀ V, S V → wpStill P (l.map ghost).toArray V (fun a' => Q .normal a' V) (l.map bare) a) : (Code.region id l.toArray true).wp P Q a w :=
  wp_region_still_lit hm hB (wpStill_light l l a (h _ hS))

/-- A region that draws its order, whose head only reads or calls quietly and whose tail goes in one order, its operations made light. -/
theorem region_still_tail {id : Nat} {Q : Exit → Act → World → Prop} {a : Act} {l : List Oper} (n : Nat) (hm : P.follows .mixedOrders = true) (hB : Region.lexTailB .any l.toArray n = true)
    (S : World → Prop) (hS : S w.drew) (h : ∀ V, S V → wpStill P (l.map ghost).toArray V (fun a' => wpList P (l.map ghost).toArray Q ((l.drop n).map bare) a' V) ((l.take n).map bare) a) : (Code.region id l.toArray true).wp P Q a w := by
  refine wp_region_still_tail n hm hB ?_
  have h' := h _ hS
  refine wpStill_light l (l.take n) a ?_
  have mono : ∀ (K K' : Act → Prop) (ops : Array Oper) (V : World), (∀ a, K a → K' a) → ∀ (l : List Oper) (a : Act), wpStill P ops V K l a → wpStill P ops V K' l a := by
    intro K K' ops V hK l
    induction l with
    | nil => exact fun a h => hK a h
    | cons o l ih =>
      intro a h
      unfold wpStill at h ⊢
      split
      · rename_i hw
        rw [if_pos hw] at h
        exact Oper.still_mono (fun a' h' => ih a' h') h
      · rename_i hw
        rw [if_neg hw] at h
        exact ih _ h
  exact mono _ _ _ _ (fun a' h'' => wpList_light l (l.drop n) a' _ h'') _ _ h'
end
end Go.Proofs.Ytjpmebfegpmccaa
