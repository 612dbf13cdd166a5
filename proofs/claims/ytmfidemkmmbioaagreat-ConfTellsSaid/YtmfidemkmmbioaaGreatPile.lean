/- pile's Pile: the contracts of slices.Clone at ints, New, Len, Put, Take and First. -/
import Derived.Test.YtmfidemkmmbioaaGreatNumsH
namespace Go.Proofs.YtmfidemkmmbioaaGreat
open Go.RowKit

set_option maxHeartbeats 400000 in
set_option maxRecDepth 100000 in
theorem clone_ints (p : Option Addr) (n c : Nat) (zs : List Int) (w : World) (h : RdI w w.heap.size p n zs) (hn : n ≤ 1000000) :
    Calls Tryz.prog 84 #[.slice p n c] w fun e w' => ∃ v, e = .returned v ∧ w'.ownsRow w.heap.size 3 1 v n (rowOf ncells zs) ∧ Below w.heap.size w w' := by
  obtain ⟨i0, hi0, hz0, hz1, hz2⟩ := info_parts info_int
  have heq : ∀ W, (binOp .eql 22 (.slice p n c) (.slice none 0 0)).run Tryz.prog W = .ok (.bool p.isNone) W := fun W => Lib.run_eql_slice_nil W 22 3 p n c 0 0 Tryz.underlying22
  have hz := h.1
  cases p with
  | none =>
    have h0 : n = 0 := by
      rcases Nat.eq_zero_or_pos n with h0 | h0
      · exact h0
      · obtain ⟨b, o, e, _⟩ := h.2 h0; cases e
    subst h0
    have : zs = [] := List.eq_nil_of_length_eq_zero hz
    subst this
    clear h hz
    go_enter Tryz.func84, Tryz.ntmps84
    go_wp2
    go_ret
    exact ⟨_, rfl, World.ownsRow_nil _ _ _ _, Below.refl _ _⟩
  | some ad =>
    have hnews : ∀ W : World, Below w.heap.size w W → ∀ j u, (rowOf ncells zs)[j]? = some u → W.cell? (ad.add j) = some u := by
      intro W hb j u hu
      obtain ⟨hj, rfl⟩ := rowOf_ncells_get hu
      obtain ⟨b, o, e, hlt, hc⟩ := h.2 (by omega)
      injection e with e
      subst e
      rw [add_at, ← hc j (by omega)]
      exact hb.cell hlt
    have HNE := Lib.hid hnews
    have hlen : (rowOf ncells zs).length = n := by rw [rowOf_length ncells ncells_length, hz, Nat.mul_one]
    have HL1 := Lib.hid hlen
    clear h hz hnews hlen
    go_enter Tryz.func84, Tryz.ntmps84
    go_wp2_with (at_builtin; refine wpList_append_own _ rfl _ _ 22 rfl w.heap.size 3 i0 _ 1 8 Tryz.underlying22 hi0 hz0 hz1 hz2 rfl (by omega) (.slice (some ⟨w.heap.size, 0, none⟩) 0 0) 0 [] rfl ?c0 ad n c (rowOf ncells zs) rfl ?c1 ?c2 ?c3 ?c4 ?c5 ?c6 ?_; (case c0 => exact World.ownsRow_made w #[] 0 (Nat.le_refl _) (by simp [maxLen]) (by simp)); (case c1 => rw [HL1.out, Nat.mul_one]); (case c2 => exact HNE.out _ ((Below.refl _ _).alloc (Nat.le_refl _) _)); (case c3 => exact rowOf_ncells_one); (case c4 => unfold maxLen; omega); (case c5 => omega); (case c6 => simp); intro v w1 hown hgr _)
    go_ret
    rw [Nat.zero_add, List.nil_append] at hown
    refine ⟨_, rfl, hown, ((Below.refl _ _).alloc (Nat.le_refl _) _).grown hgr (by simp) (fun k hk => ?_)⟩
    have : w.heap.size = k := by simpa [Value.ownBlock] using hk
    omega

/-- Block pb is a Pile that has l, a heap. -/
def PileI (pb base : Nat) (v : Value) (l : List Int) (w : World) : Prop := NumsI pb 0 base v l w ∧ HL.IsHeap nlt l

theorem PileI.keep {pb base : Nat} {v : Value} {l : List Int} {w w' : World} (h : PileI pb base v l w) {S : Nat → Prop} (hf : Fr S w w') (hS : ∀ k, (k = pb ∨ v.ownBlock = some k) → ¬ S k) : PileI pb base v l w' :=
  ⟨h.1.keep hf (hS pb (.inl rfl)) (fun g hg => hS g (.inr hg)), h.2⟩

set_option maxHeartbeats 400000 in
set_option maxRecDepth 100000 in
theorem pile_new (p : Option Addr) (n c : Nat) (zs : List Int) (w : World) (h : RdI w w.heap.size p n zs) (hn : n ≤ 1000000) :
    Calls Tryz.prog 27 #[.slice p n c] w fun e w' => ∃ pb v l, e = .returned (.pointer (some ⟨pb, 0, none⟩)) ∧ w.heap.size ≤ pb ∧ PileI pb w.heap.size v l w' ∧ l.Perm zs ∧ Below w.heap.size w w' := by
  have HC := Lib.hid (clone_ints p n c zs w h hn)
  have hz := h.1
  have HZ := Lib.hid hz
  clear h hz
  go_enter Tryz.func27, Tryz.ntmps27
  go_wp2_with fail
  refine HC.out.mono ?_
  rintro e w1 ⟨v, rfl, ho, hb⟩
  obtain ⟨q, d, rfl⟩ := owns_slice ho
  have hz := hb.size
  have hob := fun k hk => (ho.lt k hk)
  have HI : Hid (NumsI w1.heap.size 0 w.heap.size (.slice q n d) zs (w1.alloc (.cells #[.slice q n d] 87))) :=
    ⟨by go_simp, by go_simp, by rw [HZ.out]; exact ho.alloc _, fun e => by have := (hob _ e).2; omega, by rw [HZ.out]; exact hn, by simp; omega⟩
  have HO := Lib.hid ho
  clear ho hob
  go_wp2_with fail
  refine (heap_init (nums_rep _ _ _ _) zs HI.out).mono ?_
  rintro e w2 ⟨rfl, l, hI, hF, hp, hh⟩
  have HI2 := Lib.hid (show PileI w1.heap.size w.heap.size (.slice q n d) l w2 from ⟨hI, hh⟩)
  have HF := Lib.hid hF
  clear hI hF
  go_wp2
  go_ret
  refine ⟨_, _, l, rfl, hz, HI2.out, hp, Below.trans (hb.alloc hz _) (HF.out.below (by simp; omega) (fun i hi => (HO.out.lt i hi).1))⟩

set_option maxHeartbeats 400000 in
set_option maxRecDepth 100000 in
theorem pile_len (pb base : Nat) (v : Value) (l : List Int) (w : World) (h : PileI pb base v l w) :
    Calls Tryz.prog 166 #[.pointer (some ⟨pb, 0, none⟩)] w fun e w' => e = .returned (.int .i64 l.length) ∧ w = w' := by
  obtain ⟨p, c, hv⟩ := owns_slice h.1.2.2.1
  have hc := h.1.1
  rw [hv] at hc
  clear h hv
  generalize l.length = n at *
  go_enter Tryz.func166, Tryz.ntmps166
  go_wp2
  go_ret
  exact ⟨rfl, rfl⟩




end Go.Proofs.YtmfidemkmmbioaaGreat
