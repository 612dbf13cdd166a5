/- Two queues; what a queue tells piece by piece. -/
import Derived.Test.YtjpmebfegpmccaaRAlive
import Derived.Test.YtjpmebfegpmccaaOrdersL
import Derived.Test.YtjpmebfegpmccaaSame
import Derived.Test.YtjpmebfegpmccaaReg
import Derived.Deep.QuietTactic
import Derived.BigQuiet
namespace Go.Proofs.Ytjpmebfegpmccaa
open Go.RowKit

/-- A read more is added to a queue; the list that Add takes is new. -/
theorem add_to {V : World} {qb base i : Nat} {v : Value} {l : List Wt} (hq : QueueI qb base v l i V) (hl : l.length = i) (hi : i ≤ 100) (x1 x2 : Int) :
    Calls Try.prog 6 #[.pointer (some ⟨qb, 0, none⟩), .slice (some ⟨V.heap.size, 0, none⟩) 1 1] (V.alloc (.cells #[.int .i64 i, .int .i64 x1, .int .i64 x2] 25)) fun e w' =>
      e = .returned (.tuple #[]) ∧ ∃ v' l', QueueI qb base v' l' (i + 1 : Nat) w' ∧ l'.Perm (l ++ [((i : Int), x1, x2, (i : Int) + 1)]) ∧ Fr (queueF qb v) V w' ∧ (∀ g, v'.ownBlock = some g → Lies v g V.heap.size) := by
  have hA : Fr (fun _ => False) V (V.alloc (.cells #[.int .i64 i, .int .i64 x1, .int .i64 x2] 25)) := (Fr.refl _ V).alloc _
  have hk := hq.keep hA (fun _ _ h => h)
  have hr : RdG rcells (V.alloc (.cells #[.int .i64 i, .int .i64 x1, .int .i64 x2] 25)) (V.alloc (.cells #[.int .i64 i, .int .i64 x1, .int .i64 x2] 25)).heap.size (some ⟨V.heap.size, 0, none⟩) 1 [((i : Int), x1, x2)] :=
    RdG.more (RdG.fresh (f := rcells) V [((i : Int), x1, x2)] 25) (by simp)
  refine (queue_add qb base v l i [((i : Int), x1, x2)] _ 1 1 _ hk hr (fun b o' e _ hs => ?_) (by omega) (by omega) (by omega)).mono ?_
  · injection e with e
    injection e with e _
    have := hq.lt _ hs
    omega
  · rintro e w2 ⟨he, v2, l2, hq2, hp2, hF, hL⟩
    refine ⟨he, v2, l2, by simpa using hq2, ?_, (hA.mono (fun _ _ h => h.elim)).trans hF (fun i hi _ => hi), fun g hg => ?_⟩
    · have : numbered [((i : Int), x1, x2)] i 1 = [((i : Int), x1, x2, (i : Int) + 1)] := by
        simp only [numbered, List.range_one, List.map_cons, List.map_nil, wt, HL.el, List.getD_cons_zero]
        rw [show (i : Int) + 1 + ((0 : Nat) : Int) = (i : Int) + 1 by omega]
      rw [← this]
      exact hp2
    · rcases hL g hg with h | h
      · exact .inl h
      · exact .inr (by simp at h; omega)

/-- Two queues apart from each other, both with the first i reads. -/
def TwoRel (zs : List Rd) (w : World) (qb i : Nat) (wr : World) : Prop :=
  ∃ v l v2 l2, QueueI w.heap.size w.heap.size v l i wr ∧ l.Perm (rl zs i) ∧ QueueI qb w.heap.size v2 l2 i wr ∧ l2.Perm (rl zs i) ∧ (∀ k, queueF w.heap.size v k → ¬ queueF qb v2 k) ∧ Below w.heap.size w wr

theorem queue_base {qb base base' : Nat} {v : Value} {l : List Wt} {s : Int} {w : World} (h : QueueI qb base v l s w) (hb : base' ≤ base) : QueueI qb base' v l s w := by
  obtain ⟨⟨a1, a2, a3, a4, a5, a6⟩, b, c, d⟩ := h
  exact ⟨⟨a1, a2, owns_base a3 hb, a4, a5, by omega⟩, b, c, d⟩

def MidRel (zs : List Rd) (w : World) (qb i : Nat) (wr : World) : Prop :=
  ∃ v l v2 l2, QueueI w.heap.size w.heap.size v l (i + 1 : Nat) wr ∧ l.Perm (rl zs (i + 1)) ∧ QueueI qb w.heap.size v2 l2 i wr ∧ l2.Perm (rl zs i) ∧ (∀ k, queueF w.heap.size v k → ¬ queueF qb v2 k) ∧ Below w.heap.size w wr

theorem two_first {zs : List Rd} {w wr : World} {qb i : Nat} (h : TwoRel zs w qb i wr) (hi : i ≤ 100) (x1 x2 : Int) (hx : (HL.el zs i).2.1 = x1 ∧ (HL.el zs i).2.2 = x2) (o : Obj) :
    Calls Try.prog 6 #[.pointer (some ⟨w.heap.size, 0, none⟩), .slice (some ⟨wr.heap.size + 1, 0, none⟩) 1 1] ((wr.alloc o).alloc (.cells #[.int .i64 i, .int .i64 x1, .int .i64 x2] 25)) fun e w' =>
      e = .returned (.tuple #[]) ∧ MidRel zs w qb i w' ∧ (∀ k, w'.cell? ⟨wr.heap.size, k, none⟩ = (wr.alloc o).cell? ⟨wr.heap.size, k, none⟩) ∧ wr.heap.size < w'.heap.size := by
  obtain ⟨v, l, v2, l2, hq, hp, hq2, hp2, hd, hb⟩ := h
  have hA : Fr (fun _ => False) wr (wr.alloc o) := (Fr.refl _ wr).alloc _
  have e : (wr.alloc o).heap.size = wr.heap.size + 1 := by simp
  have := add_to (hq.keep hA (fun _ _ h => h)) (by rw [hp.length_eq, rl_length]) hi x1 x2
  rw [e] at this
  refine this.mono ?_
  rintro e' w' ⟨rfl, v', l', hq', hp', hF, hL⟩
  have hlt2 := hq2.lt
  have hlt1 := hq.lt
  refine ⟨rfl, ⟨v', l', v2, l2, hq', ?_, (hq2.keep hA (fun _ _ h => h)).keep hF (fun k hk h => hd k h hk), hp2, ?_, hb.trans ((hA.below hb.size (fun _ h => h.elim)).trans (hF.below (by have := hb.size; omega) (hq.ge (Nat.le_refl _))))⟩, fun k => ?_, ?_⟩
  · rw [rl_succ, hx.1, hx.2]
    exact hp'.trans (hp.append_right _)
  · rintro k (hk | hk) h2
    · exact hd k (.inl hk) h2
    · rcases hL k hk with h | h
      · exact hd k (.inr h) h2
      · have := hlt2 k h2
        omega
  · exact hF.cell (p := ⟨wr.heap.size, k, none⟩) (by simp) (fun h => Nat.lt_irrefl _ (hlt1 _ h))
  · have := hF.size
    omega

theorem two_second {zs : List Rd} {w V : World} {qb i : Nat} (h : MidRel zs w qb i V) (hqb : w.heap.size ≤ qb) (hi : i ≤ 100) (x1 x2 : Int) (hx : (HL.el zs i).2.1 = x1 ∧ (HL.el zs i).2.2 = x2) :
    Calls Try.prog 6 #[.pointer (some ⟨qb, 0, none⟩), .slice (some ⟨V.heap.size, 0, none⟩) 1 1] (V.alloc (.cells #[.int .i64 i, .int .i64 x1, .int .i64 x2] 25)) fun e w' =>
      e = .returned (.tuple #[]) ∧ TwoRel zs w qb (i + 1) w' := by
  obtain ⟨v, l, v2, l2, hq, hp, hq2, hp2, hd, hb⟩ := h
  refine (add_to hq2 (by rw [hp2.length_eq, rl_length]) hi x1 x2).mono ?_
  rintro e' w' ⟨rfl, v', l', hq', hp', hF, hL⟩
  have hlt1 := hq.lt
  refine ⟨rfl, v, l, v', l', hq.keep hF (fun k hk h => hd k hk h), hp, hq', ?_, ?_, hb.trans (hF.below hb.size (hq2.ge hqb))⟩
  · rw [rl_succ, hx.1, hx.2]
    exact hp'.trans (hp2.append_right _)
  · rintro k hk (h2 | h2)
    · exact hd k hk (.inl h2)
    · rcases hL k h2 with h | h
      · exact hd k hk (.inr h)
      · have := hlt1 k hk
        omega

/-- What holds as the second queue is asked, piece by piece. -/
def SomeRel (w : World) (qb B n : Nat) (T : List Wt) (av sv : Value) (P l : List Wt) (wr : World) : Prop :=
  ∃ v, QueueI qb w.heap.size v l n wr ∧ Told T P l ∧ wr.ownsRow B 3 1 sv P.length (rowOf ncells (P.map (·.1))) ∧ wr.ownsRow w.heap.size 3 1 av n (rowOf ncells (T.map (·.1))) ∧
    (∀ g, av.ownBlock = some g → g < B ∧ g ≠ qb) ∧ qb < B ∧ w.heap.size ≤ qb ∧ B ≤ wr.heap.size ∧ Below w.heap.size w wr

theorem SomeRel.keep {w : World} {qb B n : Nat} {T : List Wt} {av sv : Value} {P l : List Wt} {wr w' : World} (h : SomeRel w qb B n T av sv P l wr) (hf : Below wr.heap.size wr w') : SomeRel w qb B n T av sv P l w' := by
  obtain ⟨v, hq, ht, ho, hov, hg, h1, h2, h3, hb⟩ := h
  have hF : Fr (fun _ => False) wr w' := Fr.of_all hf
  exact ⟨v, hq.below hf, ht, hF.owns ho (fun _ _ h => h), hF.owns hov (fun _ _ h => h), hg, h1, h2, Nat.le_trans h3 hf.size, hb.trans (hf.mono hb.size)⟩

theorem some_ready {zs : List Rd} {w : World} {qb B n : Nat} {T : List Wt} {av sv : Value} {P l : List Wt} {wr : World} (h : SomeRel w qb B n T av sv P l wr)
    (hT : T.Perm (rl zs n)) (hs : SortW T) (hi : ∀ x ∈ T, x.2.1 ≤ big) (a : Int) :
    Calls Try.prog 8 #[.pointer (some ⟨qb, 0, none⟩), .int .i64 a, .int .i64 big] wr fun e w' =>
      ∃ ov l' X, e = .returned ov ∧ w'.ownsRow B 3 1 ov X.length (rowOf ncells (X.map (·.1))) ∧ w'.ownsRow B 3 1 sv P.length (rowOf ncells (P.map (·.1))) ∧ (P ++ X).length ≤ n ∧ B ≤ w'.heap.size ∧
        ∀ sv' w'', w''.ownsRow B 3 1 sv' (P ++ X).length (rowOf ncells ((P ++ X).map (·.1))) → w'.grownBy w'' sv.ownBlock → SomeRel w qb B n T av sv' (P ++ X) l' w'' := by
  obtain ⟨v, hq, ht, ho, hov, hg, h1, h2, h3, hb⟩ := h
  refine (queue_ready qb w.heap.size v l n a big wr hq).mono ?_
  rintro e w' ⟨ov, U, v', l', rfl, hU, hsU, hou, hq', hl', hF, hge⟩
  have ht' := told_step ht (fun x hx => hT.subset hx) hs hi hU hsU a hl'
  have hle := told_le ht'
  have hTn : T.length = n := by rw [hT.length_eq, rl_length]
  have hsne : ∀ g, sv.ownBlock = some g → ¬ queueF qb v g := by
    rintro g hsg (rfl | hvg)
    · have := (ho.lt _ hsg).1; omega
    · exact owns_ne ho hq.1.2.2.1 (by decide) hsg hvg
  refine ⟨ov, l', _, rfl, owns_base hou h3, hF.owns ho hsne, by omega, Nat.le_trans h3 hF.size, ?_⟩
  intro sv' w'' ho' hgr
  have hane : ∀ g, av.ownBlock = some g → ¬ queueF qb v g := by
    rintro g hsg (rfl | hvg)
    · exact (hg _ hsg).2 rfl
    · exact owns_ne hov hq.1.2.2.1 (by decide) hsg hvg
  have ho1 := hF.owns ho hsne
  have hov1 := hF.owns hov hane
  have hF2 : Fr (fun k => sv.ownBlock = some k) w' w'' := Fr.of_grown hgr (fun i _ hi => hi)
  refine ⟨v', hq'.keep hF2 ?_, ht', ho', hF2.owns hov1 (fun g hag hsg => by have h4 := (hg g hag).1; have h5 := (ho.lt g hsg).1; omega), hg, h1, h2, Nat.le_trans h3 (Nat.le_trans hF.size hF2.size), ?_⟩
  · rintro k (rfl | hk) hsg
    · have := (ho.lt _ hsg).1; omega
    · exact owns_ne ho1 hq'.1.2.2.1 (by decide) hsg hk
  · refine hb.trans ((hF.below hb.size (hq.ge h2)).trans (hF2.below (Nat.le_trans hb.size hF.size) (fun k hk => ?_)))
    have := (ho.lt _ hk).1
    omega
end Go.Proofs.Ytjpmebfegpmccaa
