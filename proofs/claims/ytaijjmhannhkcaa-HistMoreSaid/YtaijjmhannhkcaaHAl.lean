/- arboretumlaw30.alive returns true. -/
import Derived.Test.YtaijjmhannhkcaaLin
namespace Go.Proofs.Ytaijjmhannhkcaa
open Go.RowKit

/-- Linear of a fresh row. -/
theorem lin_row (zs : List Ev) (m : Nat) (hl : zs.length = m) (hm : m ≤ 16) (hg : ∀ i, i < m → GoodE zs i) (hv : ∀ i, i < m → (zs.getD i default).val.size ≤ maxLen) (T : TypeId) (W : World) :
    Calls Try.prog 7 #[.slice (some ⟨W.heap.size, 0, none⟩) m m] (W.alloc (.cells (rowOf evc zs).toArray T)) fun e w' => ((e = .returned (.tuple #[.bool true, .int .i64 0]) ∧ OrdOf zs) ∨ (e = .returned (.tuple #[.bool false, .int .i64 0]) ∧ ¬ OrdOf zs)) ∧ Below W.heap.size W w' := by
  subst hl
  refine (linear_ok _ _ _ zs _ ((RdG.fresh W zs T).more (by simp)) hm hg hv).mono ?_
  rintro e w' ⟨h, hb⟩
  exact ⟨h, ((Below.refl _ W).alloc (Nat.le_refl _) _).trans (hb.mono (by simp))⟩

theorem lin_row_true (zs : List Ev) (m : Nat) (hl : zs.length = m) (hm : m ≤ 16) (hg : ∀ i, i < m → GoodE zs i) (hv : ∀ i, i < m → (zs.getD i default).val.size ≤ maxLen) (ho : OrdOf zs) (T : TypeId) (W : World) :
    Calls Try.prog 7 #[.slice (some ⟨W.heap.size, 0, none⟩) m m] (W.alloc (.cells (rowOf evc zs).toArray T)) fun e w' => e = .returned (.tuple #[.bool true, .int .i64 0]) ∧ Below W.heap.size W w' := by
  refine (lin_row zs m hl hm hg hv T W).mono ?_
  rintro e w' ⟨h | h, hb⟩
  · exact ⟨h.1, hb⟩
  · exact absurd ho h.2

theorem lin_row_false (zs : List Ev) (m : Nat) (hl : zs.length = m) (hm : m ≤ 16) (hg : ∀ i, i < m → GoodE zs i) (hv : ∀ i, i < m → (zs.getD i default).val.size ≤ maxLen) (ho : ¬ OrdOf zs) (T : TypeId) (W : World) :
    Calls Try.prog 7 #[.slice (some ⟨W.heap.size, 0, none⟩) m m] (W.alloc (.cells (rowOf evc zs).toArray T)) fun e w' => e = .returned (.tuple #[.bool false, .int .i64 0]) ∧ Below W.heap.size W w' := by
  refine (lin_row zs m hl hm hg hv T W).mono ?_
  rintro e w' ⟨h | h, hb⟩
  · exact absurd h.2 ho
  · exact ⟨h.1, hb⟩

/-- An event's cells in a block. -/
def EvAt (w : World) (b : Nat) (e : Ev) : Prop := ∀ c, c < 14 → w.cell? ⟨b, c, none⟩ = (evc e)[c]?

theorem EvAt.below {w w' : World} {b n : Nat} {e : Ev} (h : EvAt w b e) (hb : Below n w w') (hn : b < n) : EvAt w' b e := fun c hc => by
  rw [hb.cell (p := ⟨b, c, none⟩) hn]
  exact h c hc

theorem EvAt.fresh (w : World) (e : Ev) (T : TypeId) : EvAt (w.alloc (.cells (evc e).toArray T)) w.heap.size e := fun c hc => by
  rw [cell_of_row _ _ _ _ _ _ (heap_alloc_new w _)]
  simp

theorem EvAt.alloc {w : World} {b : Nat} {e : Ev} (h : EvAt w b e) (hb : b < w.heap.size) (o : Obj) : EvAt (w.alloc o) b e := h.below ((Below.refl _ w).alloc (Nat.le_refl _) o) hb

/-- Three events in blocks of their own. -/
theorem three_at (w : World) (x y z : Ev) (T : TypeId) : ∃ W, W = (((w.alloc (.cells (evc x).toArray T)).alloc (.cells (evc y).toArray T)).alloc (.cells (evc z).toArray T)) ∧ W.heap.size = w.heap.size + 3 ∧ Below w.heap.size w W ∧
    EvAt W w.heap.size x ∧ EvAt W (w.heap.size + 1) y ∧ EvAt W (w.heap.size + 1 + 1) z := by
  refine ⟨_, rfl, by simp, (((Below.refl _ w).alloc (Nat.le_refl _) _).alloc (by simp) _).alloc (by simp; omega) _, ((EvAt.fresh w x T).alloc (by simp) _).alloc (by simp; omega) _, ?_, ?_⟩
  · have h := (EvAt.fresh (w.alloc (.cells (evc x).toArray T)) y T).alloc (by simp) (.cells (evc z).toArray T)
    simpa using h
  · have h := EvAt.fresh ((w.alloc (.cells (evc x).toArray T)).alloc (.cells (evc y).toArray T)) z T
    simpa using h

def pE : Ev := ⟨0, 0, 1, 0, 0, ⟨#[107]⟩, ⟨#[97]⟩, ⟨#[]⟩, 0, ⟨#[]⟩, 0, 1, 2, true⟩
def gE : Ev := ⟨0, 0, 4, 0, 0, ⟨#[107]⟩, ⟨#[]⟩, ⟨#[]⟩, 0, ⟨#[97]⟩, 0, 3, 4, true⟩
def nE : Ev := ⟨0, 0, 4, 0, 0, ⟨#[107]⟩, ⟨#[]⟩, ⟨#[]⟩, 7, ⟨#[]⟩, 0, 3, 4, true⟩

theorem good2 (x y : Ev) (h : x.key = y.key) (hx : 1 ≤ x.kind ∧ x.kind ≤ 4) (hy : 1 ≤ y.kind ∧ y.kind ≤ 4) : ∀ i, i < 2 → GoodE [x, y] i := by
  intro i hi
  match i, hi with
  | 0, _ => exact ⟨rfl, hx⟩
  | 1, _ => exact ⟨h.symm, hy⟩

theorem size2 (x y : Ev) (hx : x.val.size ≤ maxLen) (hy : y.val.size ≤ maxLen) : ∀ i, i < 2 → (([x, y] : List Ev).getD i default).val.size ≤ maxLen := by
  intro i hi
  match i, hi with
  | 0, _ => exact hx
  | 1, _ => exact hy

theorem ord_pg : OrdOf [pE, gE] := two_put rfl rfl rfl rfl rfl (by decide)
theorem ord_pn : ¬ OrdOf [pE, nE] := two_lost rfl rfl rfl rfl rfl (by decide)

set_option maxHeartbeats 2000000 in
set_option maxRecDepth 100000 in
theorem alive_true (w : World) : Calls Try.prog 6 #[] w fun e w' => e = .returned (.bool true) ∧ Below w.heap.size w w' := by
  have H1 := Lib.hid (lin_row_true [pE, gE] 2 rfl (by decide) (good2 pE gE rfl (by decide) (by decide)) (size2 pE gE (by decide) (by decide)) ord_pg)
  have H2 := Lib.hid (lin_row_false [pE, nE] 2 rfl (by decide) (good2 pE nE rfl (by decide) (by decide)) (size2 pE nE (by decide) (by decide)) ord_pn)
  go_enter Try.func6, Try.ntmps6
  go_wp2_with fail
  obtain ⟨W0, hW0, hz0, hb0, hp0, hg0, hn0⟩ := three_at w pE gE nE 29
  have E1 := H1.out 29 W0
  rw [hz0] at E1
  rw [hW0] at E1
  refine E1.mono ?_
  clear E1
  rintro e w1 ⟨rfl, hb1⟩
  rw [← hW0] at hb1
  rw [← hz0] at hb1
  have HB1 := Lib.hid (hb0.trans (hb1.mono (by omega)))
  have HP := Lib.hid (hp0.below hb1 (by omega))
  have HGG := Lib.hid (hg0.below hb1 (by omega))
  have HN := Lib.hid (hn0.below hb1 (by omega))
  have hz1 := hb1.size
  clear hp0 hg0 hn0 hb0 hb1
  have a0 : w1.cell? ⟨w.heap.size, 0, none⟩ = some (.int .i64 pE.client) := HP.out 0 (by omega)
  have a1 : w1.cell? ⟨w.heap.size, 1, none⟩ = some (.int .i64 pE.num) := HP.out 1 (by omega)
  have a2 : w1.cell? ⟨w.heap.size, 2, none⟩ = some (.int .i64 pE.kind) := HP.out 2 (by omega)
  have a3 : w1.cell? ⟨w.heap.size, 3, none⟩ = some (.int .i64 pE.sess) := HP.out 3 (by omega)
  have a4 : w1.cell? ⟨w.heap.size, 4, none⟩ = some (.int .i64 pE.sq) := HP.out 4 (by omega)
  have a5 : w1.cell? ⟨w.heap.size, 5, none⟩ = some (.string pE.key) := HP.out 5 (by omega)
  have a6 : w1.cell? ⟨w.heap.size, 6, none⟩ = some (.string pE.val) := HP.out 6 (by omega)
  have a7 : w1.cell? ⟨w.heap.size, 7, none⟩ = some (.string pE.old) := HP.out 7 (by omega)
  have a8 : w1.cell? ⟨w.heap.size, 8, none⟩ = some (.int .i64 pE.err) := HP.out 8 (by omega)
  have a9 : w1.cell? ⟨w.heap.size, 9, none⟩ = some (.string pE.rval) := HP.out 9 (by omega)
  have a10 : w1.cell? ⟨w.heap.size, 10, none⟩ = some (.int .i64 pE.rnum) := HP.out 10 (by omega)
  have a11 : w1.cell? ⟨w.heap.size, 11, none⟩ = some (.int .i64 pE.frm) := HP.out 11 (by omega)
  have a12 : w1.cell? ⟨w.heap.size, 12, none⟩ = some (.int .i64 pE.to) := HP.out 12 (by omega)
  have a13 : w1.cell? ⟨w.heap.size, 13, none⟩ = some (.bool pE.done) := HP.out 13 (by omega)
  have n0 : w1.cell? ⟨w.heap.size + 1 + 1, 0, none⟩ = some (.int .i64 nE.client) := HN.out 0 (by omega)
  have n1 : w1.cell? ⟨w.heap.size + 1 + 1, 1, none⟩ = some (.int .i64 nE.num) := HN.out 1 (by omega)
  have n2 : w1.cell? ⟨w.heap.size + 1 + 1, 2, none⟩ = some (.int .i64 nE.kind) := HN.out 2 (by omega)
  have n3 : w1.cell? ⟨w.heap.size + 1 + 1, 3, none⟩ = some (.int .i64 nE.sess) := HN.out 3 (by omega)
  have n4 : w1.cell? ⟨w.heap.size + 1 + 1, 4, none⟩ = some (.int .i64 nE.sq) := HN.out 4 (by omega)
  have n5 : w1.cell? ⟨w.heap.size + 1 + 1, 5, none⟩ = some (.string nE.key) := HN.out 5 (by omega)
  have n6 : w1.cell? ⟨w.heap.size + 1 + 1, 6, none⟩ = some (.string nE.val) := HN.out 6 (by omega)
  have n7 : w1.cell? ⟨w.heap.size + 1 + 1, 7, none⟩ = some (.string nE.old) := HN.out 7 (by omega)
  have n8 : w1.cell? ⟨w.heap.size + 1 + 1, 8, none⟩ = some (.int .i64 nE.err) := HN.out 8 (by omega)
  have n9 : w1.cell? ⟨w.heap.size + 1 + 1, 9, none⟩ = some (.string nE.rval) := HN.out 9 (by omega)
  have n10 : w1.cell? ⟨w.heap.size + 1 + 1, 10, none⟩ = some (.int .i64 nE.rnum) := HN.out 10 (by omega)
  have n11 : w1.cell? ⟨w.heap.size + 1 + 1, 11, none⟩ = some (.int .i64 nE.frm) := HN.out 11 (by omega)
  have n12 : w1.cell? ⟨w.heap.size + 1 + 1, 12, none⟩ = some (.int .i64 nE.to) := HN.out 12 (by omega)
  have n13 : w1.cell? ⟨w.heap.size + 1 + 1, 13, none⟩ = some (.bool nE.done) := HN.out 13 (by omega)
  go_wp2_with fail
  refine (H2.out 29 w1).mono ?_
  rintro e w2 ⟨rfl, hb2⟩
  have hg2 := HGG.out.below hb2 (by omega)
  have HB2 := Lib.hid (HB1.out.trans (hb2.mono (by omega)))
  have b8 : w2.cell? ⟨w.heap.size + 1, 8, none⟩ = some (.int .i64 gE.err) := hg2 8 (by omega)
  have b9 : w2.cell? ⟨w.heap.size + 1, 9, none⟩ = some (.string gE.rval) := hg2 9 (by omega)
  have b10 : w2.cell? ⟨w.heap.size + 1, 10, none⟩ = some (.int .i64 gE.rnum) := hg2 10 (by omega)
  clear hg2 hb2 a0 a1 a2 a3 a4 a5 a6 a7 a8 a9 a10 a11 a12 a13 n0 n1 n2 n3 n4 n5 n6 n7 n8 n9 n10 n11 n12 n13 HP HGG HN
  go_wp2_with fail
  refine (hist_Sure _ _ _ _).mono ?_
  rintro e w3 ⟨rfl, hb3⟩
  have HB3 := Lib.hid (HB2.out.trans (hb3.mono HB2.out.size))
  have hs : sureR gE.err = true := rfl
  rw [hs]
  clear hb3 b8 b9 b10 hs
  go_wp2_with fail
  refine (hist_Sure _ _ _ _).mono ?_
  rintro e w4 ⟨rfl, hb4⟩
  have HB4 := Lib.hid (HB3.out.trans (hb4.mono HB3.out.size))
  have hs : sureR 21 = false := rfl
  rw [hs]
  clear hb4 hs
  go_wp2
  go_ret
  exact ⟨rfl, HB4.out⟩
end Go.Proofs.Ytaijjmhannhkcaa
