/- dev: what a device's block holds; its rows kept through an append. -/
import Derived.Test.YtpoiopjggmhnjaaDoorDev
import Derived.Deep.AppendLies
namespace Go.Proofs.YtpoiopjggmhnjaaDoor
open Go.RowKit Go.Conc

def scells (b : ByteArray) : List Value := [.string b]
theorem scells_length (b : ByteArray) : (scells b).length = 1 := rfl
theorem info_string : (Tryd.prog.info? 9).map (fun i => (i.zero, i.size, i.bytes)) = some (some (.string ByteArray.empty), 1, 16) := by kernel_rfl

/-- A device. -/
structure DevI (db base : Nat) (m : Int) (on fu : Bool) (lf : Int) (sy nw : List ByteArray) (ws : List Wr) (v4 v5 cv : Value) (w : World) : Prop where
  c0 : w.cell? ⟨db, 0, none⟩ = some (.int .i64 m)
  c1 : w.cell? ⟨db, 1, none⟩ = some (.bool on)
  c2 : w.cell? ⟨db, 2, none⟩ = some (.bool fu)
  c3 : w.cell? ⟨db, 3, none⟩ = some (.int .i64 lf)
  c4 : w.cell? ⟨db, 4, none⟩ = some v4
  c5 : w.cell? ⟨db, 5, none⟩ = some v5
  c6 : w.cell? ⟨db, 6, none⟩ = some cv
  fz : ∀ k, k ≤ 6 → w.frozen? ⟨db, k, none⟩ = false
  o4 : w.ownsRow base 9 1 v4 sy.length (rowOf scells sy)
  o5 : w.ownsRow base 9 1 v5 nw.length (rowOf scells nw)
  n4 : v4.ownBlock ≠ some db
  n5 : v5.ownBlock ≠ some db
  n45 : ∀ g, v4.ownBlock = some g → v5.ownBlock ≠ some g
  ch : ChanI w cv ws
  bs : base ≤ db
  bc : ∀ c, cv = .chan (some c) → base ≤ c

/-- The blocks of a device. -/
def devF (db : Nat) (v4 v5 cv : Value) : Nat → Prop := fun k => k = db ∨ v4.ownBlock = some k ∨ v5.ownBlock = some k ∨ cv = .chan (some k)

section
variable {db base : Nat} {m lf : Int} {on fu : Bool} {sy nw : List ByteArray} {ws : List Wr} {v4 v5 cv : Value} {w w' : World}

theorem ChanI.keep (h : ChanI w cv ws) {S : Nat → Prop} (hF : Fr S w w') (hS : ∀ c, cv = .chan (some c) → ¬ S c) : ChanI w' cv ws := by
  rcases h with h | ⟨c, cap, s, r, e, hc, h1, h2⟩
  · exact .inl h
  · exact .inr ⟨c, cap, s, r, e, (hF.block c (Array.getElem?_eq_some_iff.1 hc).1 (hS c e)).trans hc, h1, h2⟩

theorem DevI.keep (h : DevI db base m on fu lf sy nw ws v4 v5 cv w) {S : Nat → Prop} (hF : Fr S w w') (hS : ∀ k, devF db v4 v5 cv k → ¬ S k) : DevI db base m on fu lf sy nw ws v4 v5 cv w' := by
  have hdl : db < w.heap.size := cell_lt h.c0
  have cc : ∀ o, w'.cell? ⟨db, o, none⟩ = w.cell? ⟨db, o, none⟩ := fun o => hF.cell (p := ⟨db, o, none⟩) hdl (hS db (.inl rfl))
  have ff : ∀ o, w'.frozen? ⟨db, o, none⟩ = w.frozen? ⟨db, o, none⟩ := fun o => hF.frozen (p := ⟨db, o, none⟩) hdl (hS db (.inl rfl))
  exact ⟨(cc 0).trans h.c0, (cc 1).trans h.c1, (cc 2).trans h.c2, (cc 3).trans h.c3, (cc 4).trans h.c4, (cc 5).trans h.c5, (cc 6).trans h.c6, fun k hk => (ff k).trans (h.fz k hk), hF.owns h.o4 (fun g hg => hS g (.inr (.inl hg))), hF.owns h.o5 (fun g hg => hS g (.inr (.inr (.inl hg)))), h.n4, h.n5, h.n45, h.ch.keep hF (fun c e => hS c (.inr (.inr (.inr e)))), h.bs, h.bc⟩

theorem DevI.lt (h : DevI db base m on fu lf sy nw ws v4 v5 cv w) : ∀ k, devF db v4 v5 cv k → k < w.heap.size := by
  rintro k (rfl | hk | hk | hk)
  · exact cell_lt h.c0
  · exact (h.o4.lt k hk).2
  · exact (h.o5.lt k hk).2
  · rcases h.ch with ⟨e, _⟩ | ⟨c, cap, s, r, e, hc, _⟩
    · rw [e] at hk; cases hk
    · rw [e] at hk; injection hk with hk; injection hk with hk; subst hk; exact (Array.getElem?_eq_some_iff.1 hc).1

theorem DevI.ge (h : DevI db base m on fu lf sy nw ws v4 v5 cv w) : ∀ k, devF db v4 v5 cv k → base ≤ k := by
  rintro k (rfl | hk | hk | hk)
  · exact h.bs
  · exact (h.o4.lt k hk).1
  · exact (h.o5.lt k hk).1
  · exact h.bc k hk

theorem owns_not_chan {b : Nat} {e : TypeId} {n : Nat} {v : Value} {xs : List Value} {g c cap s r : Nat} (h : w.ownsRow b e 1 v n xs) (hg : v.ownBlock = some g) (hc : w.heap[c]? = some (chanOf cap s r ws)) : g ≠ c := by
  rintro rfl
  rcases h.2 with ⟨rfl, _⟩ | ⟨g', cp, cur, rfl, _, hb, _⟩
  · cases hg
  · have e1 : g' = g := by simpa [Value.ownBlock] using hg
    subst e1
    rw [hb] at hc
    simp [chanOf] at hc

theorem DevI.app5 (h : DevI db base m on fu lf sy nw ws v4 v5 cv w) {X : Obj} {w1 : World} {g cap : Nat} {e : ByteArray} (hown : w1.ownsRow base 9 1 (.slice (some ⟨g, 0, none⟩) (nw.length + 1) cap) (nw.length + 1) (rowOf scells nw ++ [.string e])) (hgr : (w.alloc X).grownBy w1 v5.ownBlock) (hat : v5.ownBlock = some g ∨ g = w.heap.size + 1) :
    DevI db base m on fu lf sy (nw ++ [e]) ws v4 (.slice (some ⟨g, 0, none⟩) (nw.length + 1) cap) cv (w1.setCell ⟨db, 5, none⟩ (.slice (some ⟨g, 0, none⟩) (nw.length + 1) cap)) ∧ Fr (devF db v4 v5 cv) w (w1.setCell ⟨db, 5, none⟩ (.slice (some ⟨g, 0, none⟩) (nw.length + 1) cap)) := by
  have hdl : db < w.heap.size := cell_lt h.c0
  have hF1 : Fr (fun i => v5.ownBlock = some i) w w1 := Fr.trans ((Fr.refl _ w).alloc X) (Fr.of_grown hgr (fun i _ hi => hi)) (fun i hi _ => hi)
  have hF2 : Fr (fun i => i = db) w1 (w1.setCell ⟨db, 5, none⟩ (.slice (some ⟨g, 0, none⟩) (nw.length + 1) cap)) := (Fr.refl (fun i => i = db) w1).setCell (fun _ => rfl) _
  have cc : ∀ o, w1.cell? ⟨db, o, none⟩ = w.cell? ⟨db, o, none⟩ := fun o => hF1.cell (p := ⟨db, o, none⟩) hdl h.n5
  have ff : ∀ o, w1.frozen? ⟨db, o, none⟩ = w.frozen? ⟨db, o, none⟩ := fun o => hF1.frozen (p := ⟨db, o, none⟩) hdl h.n5
  have co : ∀ o, o ≠ 5 → (w1.setCell ⟨db, 5, none⟩ (.slice (some ⟨g, 0, none⟩) (nw.length + 1) cap)).cell? ⟨db, o, none⟩ = w1.cell? ⟨db, o, none⟩ := fun o ho => World.cell?_setCell_other _ _ _ _ (by intro e9; injection e9 with _ e9 _; omega)
  have hne : g ≠ db := by
    rcases hat with hat | hat
    · rintro rfl; exact h.n5 hat
    · omega
  have hrow := hF2.owns hown (fun x hx => by
    have e9 : g = x := by simpa [Value.ownBlock] using hx
    subst e9
    exact hne)
  have hoth := hF2.owns (hF1.owns h.o4 (fun x hx => h.n45 x hx)) (fun x hx => by rintro rfl; exact h.n4 hx)
  have hch : ChanI (w1.setCell ⟨db, 5, none⟩ (.slice (some ⟨g, 0, none⟩) (nw.length + 1) cap)) cv ws := by
    refine (h.ch.keep hF1 (fun c e9 => ?_)).keep hF2 (fun c e9 => ?_)
    · rcases h.ch with ⟨e8, _⟩ | ⟨c8, cap8, s8, r8, e8, hc8, _⟩
      · rw [e8] at e9; cases e9
      · rw [e8] at e9; injection e9 with e9; injection e9 with e9; subst e9; intro h9; exact owns_not_chan h.o5 h9 hc8 rfl
    · rcases h.ch with ⟨e8, _⟩ | ⟨c8, cap8, s8, r8, e8, hc8, _⟩
      · rw [e8] at e9; cases e9
      · rw [e8] at e9; injection e9 with e9; injection e9 with e9; subst e9; intro h9; exact not_chan h.c0 hc8 h9.symm
  refine ⟨⟨(co 0 (by omega)).trans ((cc 0).trans h.c0), (co 1 (by omega)).trans ((cc 1).trans h.c1), (co 2 (by omega)).trans ((cc 2).trans h.c2), (co 3 (by omega)).trans ((cc 3).trans h.c3), (co 4 (by omega)).trans ((cc 4).trans h.c4), cell_set_same w1 ⟨db, 5, none⟩ _ v5 ((cc 5).trans h.c5), (co 6 (by omega)).trans ((cc 6).trans h.c6), fun o ho => (frozen_set _ _ _ _).trans ((ff o).trans (h.fz o ho)), hoth, ?_, h.n4, ?_, ?_, hch, h.bs, h.bc⟩, ?_⟩
  · rw [rowOf_append, rowOf_one, List.length_append]; exact hrow
  · intro e9
    have e9 : g = db := by simpa [Value.ownBlock] using e9
    exact hne e9
  · exact fun g9 h9 => by
      intro e9
      have e9 : g = g9 := by simpa [Value.ownBlock] using e9
      subst e9
      rcases hat with hat | hat
      · exact h.n45 g h9 hat
      · have := (h.o4.lt g h9).2; omega
  · exact Fr.trans (hF1.mono (fun i _ hi => .inr (.inr (.inl hi)))) (hF2.mono (fun i _ hi => (.inl hi : devF db v4 v5 cv i))) (fun i hi _ => hi)

theorem DevI.app4 (h : DevI db base m on fu lf sy nw ws v4 v5 cv w) {X : Obj} {w1 : World} {g cap : Nat} {e : ByteArray} (hown : w1.ownsRow base 9 1 (.slice (some ⟨g, 0, none⟩) (sy.length + 1) cap) (sy.length + 1) (rowOf scells sy ++ [.string e])) (hgr : (w.alloc X).grownBy w1 v4.ownBlock) (hat : v4.ownBlock = some g ∨ g = w.heap.size + 1) :
    DevI db base m on fu lf (sy ++ [e]) nw ws (.slice (some ⟨g, 0, none⟩) (sy.length + 1) cap) v5 cv (w1.setCell ⟨db, 4, none⟩ (.slice (some ⟨g, 0, none⟩) (sy.length + 1) cap)) ∧ Fr (devF db v4 v5 cv) w (w1.setCell ⟨db, 4, none⟩ (.slice (some ⟨g, 0, none⟩) (sy.length + 1) cap)) := by
  have hdl : db < w.heap.size := cell_lt h.c0
  have hF1 : Fr (fun i => v4.ownBlock = some i) w w1 := Fr.trans ((Fr.refl _ w).alloc X) (Fr.of_grown hgr (fun i _ hi => hi)) (fun i hi _ => hi)
  have hF2 : Fr (fun i => i = db) w1 (w1.setCell ⟨db, 4, none⟩ (.slice (some ⟨g, 0, none⟩) (sy.length + 1) cap)) := (Fr.refl (fun i => i = db) w1).setCell (fun _ => rfl) _
  have cc : ∀ o, w1.cell? ⟨db, o, none⟩ = w.cell? ⟨db, o, none⟩ := fun o => hF1.cell (p := ⟨db, o, none⟩) hdl h.n4
  have ff : ∀ o, w1.frozen? ⟨db, o, none⟩ = w.frozen? ⟨db, o, none⟩ := fun o => hF1.frozen (p := ⟨db, o, none⟩) hdl h.n4
  have co : ∀ o, o ≠ 4 → (w1.setCell ⟨db, 4, none⟩ (.slice (some ⟨g, 0, none⟩) (sy.length + 1) cap)).cell? ⟨db, o, none⟩ = w1.cell? ⟨db, o, none⟩ := fun o ho => World.cell?_setCell_other _ _ _ _ (by intro e9; injection e9 with _ e9 _; omega)
  have hne : g ≠ db := by
    rcases hat with hat | hat
    · rintro rfl; exact h.n4 hat
    · omega
  have hrow := hF2.owns hown (fun x hx => by
    have e9 : g = x := by simpa [Value.ownBlock] using hx
    subst e9
    exact hne)
  have hoth := hF2.owns (hF1.owns h.o5 (fun x hx => fun e9 => h.n45 x e9 hx)) (fun x hx => by rintro rfl; exact h.n5 hx)
  have hch : ChanI (w1.setCell ⟨db, 4, none⟩ (.slice (some ⟨g, 0, none⟩) (sy.length + 1) cap)) cv ws := by
    refine (h.ch.keep hF1 (fun c e9 => ?_)).keep hF2 (fun c e9 => ?_)
    · rcases h.ch with ⟨e8, _⟩ | ⟨c8, cap8, s8, r8, e8, hc8, _⟩
      · rw [e8] at e9; cases e9
      · rw [e8] at e9; injection e9 with e9; injection e9 with e9; subst e9; intro h9; exact owns_not_chan h.o4 h9 hc8 rfl
    · rcases h.ch with ⟨e8, _⟩ | ⟨c8, cap8, s8, r8, e8, hc8, _⟩
      · rw [e8] at e9; cases e9
      · rw [e8] at e9; injection e9 with e9; injection e9 with e9; subst e9; intro h9; exact not_chan h.c0 hc8 h9.symm
  refine ⟨⟨(co 0 (by omega)).trans ((cc 0).trans h.c0), (co 1 (by omega)).trans ((cc 1).trans h.c1), (co 2 (by omega)).trans ((cc 2).trans h.c2), (co 3 (by omega)).trans ((cc 3).trans h.c3), cell_set_same w1 ⟨db, 4, none⟩ _ v4 ((cc 4).trans h.c4), (co 5 (by omega)).trans ((cc 5).trans h.c5), (co 6 (by omega)).trans ((cc 6).trans h.c6), fun o ho => (frozen_set _ _ _ _).trans ((ff o).trans (h.fz o ho)), ?_, hoth, ?_, h.n5, ?_, hch, h.bs, h.bc⟩, ?_⟩
  · rw [rowOf_append, rowOf_one, List.length_append]; exact hrow
  · intro e9
    have e9 : g = db := by simpa [Value.ownBlock] using e9
    exact hne e9
  · exact fun g9 h9 => by
      have h9 : g = g9 := by simpa [Value.ownBlock] using h9
      subst h9
      rcases hat with hat | hat
      · exact h.n45 g hat
      · intro e9; have := (h.o5.lt g e9).2; omega
  · exact Fr.trans (hF1.mono (fun i _ hi => .inr (.inl hi))) (hF2.mono (fun i _ hi => (.inl hi : devF db v4 v5 cv i))) (fun i hi _ => hi)

end
end Go.Proofs.YtpoiopjggmhnjaaDoor
