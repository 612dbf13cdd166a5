/- strings.Builder beside other owned rows: WriteString leaves all that is no byte. -/
import Derived.Test.YtlocadmiomglaaaGreatDoorB6
import Derived.Lib.OwnKind
namespace Go.Proofs.YtlocadmiomglaaaGreatDoor
open Go.RowKit

/-- What a builder may touch. -/
def bytesOr (b : Nat) (w : World) : Nat → Prop := fun k => k = b ∨ ∃ c fz, w.heap[k]? = some (.cells c 5 fz)

theorem bd_string_k (B b : Nat) (l : List UInt8) (s : ByteArray) (w : World) (h : Bd B b l w) (hlen : l.length + s.size ≤ 100000) (hBw : B ≤ w.heap.size) :
    Calls Tryz.prog 115 #[.pointer (some ⟨b, 0, none⟩), .string s] w fun e w' => e = .returned (.tuple #[.int .i64 s.size, .nilIface]) ∧ Bd B b (l ++ s.data.toList) w' ∧ Below B w w' ∧ Fr (bytesOr b w) w w' := by
  refine (Any.Builder_WriteString_k lay_ws Tryz.Builder_Extra_105 B b (Lib.byteCells l) s w h (by simp [Lib.byteCells]; omega) hBw).mono ?_
  rintro e w' ⟨he, h1, h2, h3⟩
  refine ⟨he, .inr ?_, h2, h2.os, h2.tape, h2.output, h2.size, fun k hk hS => ?_⟩
  · have e1 : Lib.byteCells (l ++ s.data.toList) = Lib.byteCells l ++ Lib.strCells s := by simp [Lib.byteCells, Lib.strCells]
    rw [e1]
    exact h1
  · obtain ⟨o, ho⟩ : ∃ o, w.heap[k]? = some o := ⟨_, Array.getElem?_eq_getElem hk⟩
    refine (h3 k o ho (fun e => hS (.inl (by injection e))) (fun c fz e => hS (.inr ⟨c, fz, by rw [ho, e]; rfl⟩))).trans ho.symm

theorem bd_all_k (B b : Nat) (l : List UInt8) (w : World) (h : Bd B b l w) (hBw : B ≤ w.heap.size) :
    Calls Tryz.prog 116 #[.pointer (some ⟨b, 0, none⟩)] w fun e w' => e = .returned (.string ⟨l.toArray⟩) ∧ Bd B b l w' ∧ Below B w w' ∧ Fr (bytesOr b w) w w' := by
  refine (Tryz.Builder_String_any_k B b l w h hBw).mono ?_
  rintro e w' ⟨he, h1, h2, h3⟩
  refine ⟨he, h1, h2, h2.os, h2.tape, h2.output, h2.size, fun k hk hS => ?_⟩
  obtain ⟨o, ho⟩ : ∃ o, w.heap[k]? = some o := ⟨_, Array.getElem?_eq_getElem hk⟩
  exact (h3 k o ho (fun e => hS (.inl (by injection e))) (fun c fz e => hS (.inr ⟨c, fz, by rw [ho, e]⟩))).trans ho.symm

/-- A builder is left alone by what turns rows of other things. -/
theorem Bd.far {B b : Nat} {l : List UInt8} {w w' : World} {S : Nat → Prop} (h : Bd B b l w) (hF : Fr S w w') (hb : ¬ S b) (hS : ∀ k, S k → ¬ ∃ c fz, w.heap[k]? = some (.cells c 5 fz)) : Bd B b l w' := by
  have key : ∀ p, Lib.BuilderAtF 155 5 B b p (Lib.byteCells l) w → Lib.BuilderAtF 155 5 B b p (Lib.byteCells l) w' := by
    rintro p ⟨hB, v, hbk, hown, hne⟩
    have hlt : b < w.heap.size := (Array.getElem?_eq_some_iff.1 hbk).1
    refine ⟨hB, v, (hF.block b hlt hb).trans hbk, ?_, hne⟩
    refine ⟨hown.1, ?_⟩
    rcases hown.2 with h | ⟨g, cap, cur, fz, hv, hg, hgg, rest⟩
    · exact .inl h
    · exact .inr ⟨g, cap, cur, fz, hv, hg, (hF.block g (Array.getElem?_eq_some_iff.1 hgg).1 (fun hs => hS g hs ⟨_, _, hgg⟩)).trans hgg, rest⟩
  exact h.elim (fun h => .inl (key _ h)) (fun h => .inr (key _ h))

/-- The builder's own block holds no row of things of type e. -/
theorem Bd.kind {B b : Nat} {l : List UInt8} {w : World} (h : Bd B b l w) : ∃ cs fr, w.heap[b]? = some (.cells cs 155 fr) := by
  rcases h with ⟨_, v, hbk, _⟩ | ⟨_, v, hbk, _⟩
  · exact ⟨_, _, hbk⟩
  · exact ⟨_, _, hbk⟩

/-- A row of ints lies beside a builder. -/
theorem ints_beside {B b n base : Nat} {l : List UInt8} {v : Value} {xs : List Value} {w : World} (h : Bd B b l w) (ho : w.ownsRow base 3 1 v n xs) : ∀ g, v.ownBlock = some g → ¬ bytesOr b w g := by
  intro g hg hS
  obtain ⟨c, fz, hc⟩ := Lib.ownsRow_kind ho g hg
  rcases hS with rfl | ⟨c2, fz2, hc2⟩
  · obtain ⟨cs, fr, hb⟩ := h.kind
    rw [hb] at hc
    injection hc with hc
    injection hc with _ hc
    exact absurd hc (by decide)
  · rw [hc2] at hc
    injection hc with hc
    injection hc with _ hc
    exact absurd hc (by decide)
theorem bd_beside {B b n base : Nat} {l : List UInt8} {v : Value} {xs : List Value} {w w' : World} (h : Bd B b l w) (ho : w.ownsRow base 3 1 v n xs) (hg : w.grownBy w' v.ownBlock) : Bd B b l w' := by
  have hk : ∀ k, v.ownBlock = some k → ¬ bytesOr b w k := ints_beside h ho
  exact h.far (Fr.of_grown (S := fun k => v.ownBlock = some k) hg (fun i _ e => e)) (fun e => hk _ e (.inl rfl)) (fun k e hc => hk _ e (.inr hc))
end Go.Proofs.YtlocadmiomglaaaGreatDoor
