/- chapter 30, HistMore: the plain law, and the row whose one event takes longer. -/
import Derived.Test.YtaijjmhannhkcaaLinB
import Derived.Test.YtaijjmhannhkcaaHAl
import Derived.Test.YtaijjmhannhkcaaHOpen
namespace Go.Proofs.Ytaijjmhannhkcaa
open Go.RowKit

def longer (e : Ev) (x : Int) : Ev := { e with frm := e.frm - x, to := e.to + x }

theorem getD_set (zs : List Ev) (k i : Nat) (e : Ev) (hk : k < zs.length) : (zs.set k e).getD i default = if i = k then e else zs.getD i default := by
  rw [List.getD_eq_getElem?_getD, List.getElem?_set, List.getD_eq_getElem?_getD]
  by_cases h : k = i
  · rw [if_pos h, if_pos h.symm, if_pos (by omega)]
    rfl
  · rw [if_neg h, if_neg (fun e => h e.symm)]

theorem evW_longer (e : Ev) (x : Int) (hx : 0 ≤ x) : EvW e (longer e x) := ⟨rfl, rfl, rfl, rfl, rfl, rfl, by show e.frm - x ≤ e.frm; omega, by show e.to ≤ e.to + x; omega⟩

theorem ord_longer (zs : List Ev) (k : Nat) (x : Int) (hk : k < zs.length) (hx : 0 ≤ x) (h : OrdOf zs) : OrdOf (zs.set k (longer (zs.getD k default) x)) := by
  have hW : ∀ i, EvW (zs.getD i default) ((zs.set k (longer (zs.getD k default) x)).getD i default) := fun i => by
    rw [getD_set zs k i _ hk]
    by_cases e : i = k
    · rw [if_pos e, e]
      exact evW_longer _ x hx
    · rw [if_neg e]
      exact .refl _
  have h2 : Ord (fun i => (zs.set k (longer (zs.getD k default) x)).getD i default) (fun i => i < zs.length ∧ keepE (zs.getD i default) = true) (fun _ => False) hst0 :=
    Ord.more (fun i _ => hW i) h
  unfold OrdOf
  have hI : (fun i => i < (zs.set k (longer (zs.getD k default) x)).length ∧ keepE ((zs.set k (longer (zs.getD k default) x)).getD i default) = true) = fun i => i < zs.length ∧ keepE (zs.getD i default) = true := by
    funext i
    have hs : keepE ((zs.set k (longer (zs.getD k default) x)).getD i default) = keepE (zs.getD i default) := by
      unfold keepE
      rw [sure_same (hW i).done (hW i).err, (hW i).kind]
    rw [hs, List.length_set]
  rw [hI]
  exact h2

theorem good_longer (zs : List Ev) (k : Nat) (x : Int) (hk : k < zs.length) (h : ∀ i, i < zs.length → GoodE zs i) : ∀ i, i < zs.length → GoodE (zs.set k (longer (zs.getD k default) x)) i := by
  intro i hi
  have hK : ∀ i, ((zs.set k (longer (zs.getD k default) x)).getD i default).key = (zs.getD i default).key ∧ ((zs.set k (longer (zs.getD k default) x)).getD i default).kind = (zs.getD i default).kind := fun i => by
    rw [getD_set zs k i _ hk]
    by_cases e : i = k
    · rw [if_pos e, e]
      exact ⟨rfl, rfl⟩
    · rw [if_neg e]
      exact ⟨rfl, rfl⟩
  obtain ⟨h1, h2, h3⟩ := h i hi
  exact ⟨(hK i).1.trans (h1.trans (hK 0).1.symm), by rw [(hK i).2]; exact h2, by rw [(hK i).2]; exact h3⟩

theorem val_longer (zs : List Ev) (k : Nat) (x : Int) (hk : k < zs.length) (i : Nat) : ((zs.set k (longer (zs.getD k default) x)).getD i default).val = (zs.getD i default).val := by
  rw [getD_set zs k i _ hk]
  by_cases e : i = k
  · rw [if_pos e, e]
    rfl
  · rw [if_neg e]

/-- The row behind the two stores. -/
theorem row_longer (zs : List Ev) (k n : Nat) (x : Int) (g : Nat) (w : World) (hk : k < n) (hl : zs.length = n) (hR : RdG evc w w.heap.size (some ⟨g, 0, none⟩) n zs) :
    RdG evc ((w.setCell ⟨g, k * 14 + 11, none⟩ (.int .i64 ((zs.getD k default).frm - x))).setCell ⟨g, k * 14 + 12, none⟩ (.int .i64 ((zs.getD k default).to + x)))
      ((w.setCell ⟨g, k * 14 + 11, none⟩ (.int .i64 ((zs.getD k default).frm - x))).setCell ⟨g, k * 14 + 12, none⟩ (.int .i64 ((zs.getD k default).to + x))).heap.size (some ⟨g, 0, none⟩) n (zs.set k (longer (zs.getD k default) x)) := by
  subst hl
  obtain ⟨b, o, e, hb, hc⟩ := hR.2 (by omega)
  injection e with e
  injection e with e1 e2 _
  subst e1 e2
  refine ⟨by simp, fun _ => ⟨g, 0, rfl, by simpa using hb, fun j u hu => ?_⟩⟩
  have hj : j < zs.length * 14 := by
    have := (List.getElem?_eq_some_iff.1 hu).1
    rwa [rowOf_length evc evc_length, List.length_set] at this
  have hq : j / 14 < zs.length := Nat.div_lt_of_lt_mul (by omega)
  have hr : j % 14 < 14 := Nat.mod_lt _ (by omega)
  have hjj : j = j / 14 * 14 + j % 14 := by omega
  have e1 := rowOf_at evc evc_length (zs.set k (longer (zs.getD k default) x)) (j / 14) (j % 14) (by simpa using hq) hr
  have e0 := rowOf_at evc evc_length zs (j / 14) (j % 14) hq hr
  rw [← hjj] at e1 e0
  rw [hu, getD_set zs k _ _ hk] at e1
  have h11 := rowOf_at evc evc_length zs k 11 hk (by omega)
  have h12 := rowOf_at evc evc_length zs k 12 hk (by omega)
  have c11 : w.cell? ⟨g, k * 14 + 11, none⟩ = some (.int .i64 (zs.getD k default).frm) := by have := hc _ _ h11; rwa [Nat.zero_add] at this
  have c12 : w.cell? ⟨g, k * 14 + 12, none⟩ = some (.int .i64 (zs.getD k default).to) := by have := hc _ _ h12; rwa [Nat.zero_add] at this
  have ne : ∀ (i i' : Nat), i ≠ i' → (⟨g, i, none⟩ : Addr) ≠ ⟨g, i', none⟩ := fun i i' h e => h (by injection e)
  rw [Nat.zero_add]
  by_cases hik : j / 14 = k
  · rw [if_pos hik] at e1
    rw [hik] at e0
    by_cases h1 : j % 14 = 11
    · have hje : j = k * 14 + 11 := by omega
      rw [hje, World.cell?_setCell_other _ _ _ _ (ne _ _ (by omega)), cell_set_same _ _ _ _ c11]
      rw [h1] at e1
      exact e1.symm
    · by_cases h2 : j % 14 = 12
      · have hje : j = k * 14 + 12 := by omega
        rw [hje, cell_set_same _ _ _ _ ((World.cell?_setCell_other _ _ _ _ (ne _ _ (by omega))).trans c12)]
        rw [h2] at e1
        exact e1.symm
      · have heq : (evc (longer (zs.getD k default) x))[j % 14]? = (evc (zs.getD k default))[j % 14]? := by
          generalize hd : j % 14 = d at *
          match d, hr, h1, h2 with
          | 0, _, _, _ | 1, _, _, _ | 2, _, _, _ | 3, _, _, _ | 4, _, _, _ | 5, _, _, _ | 6, _, _, _ | 7, _, _, _ | 8, _, _, _ | 9, _, _, _ | 10, _, _, _ | 13, _, _, _ => rfl
          | 11, _, h, _ => exact absurd rfl h
          | 12, _, _, h => exact absurd rfl h
        rw [World.cell?_setCell_other _ _ _ _ (ne _ _ (by omega)), World.cell?_setCell_other _ _ _ _ (ne _ _ (by omega))]
        have := hc j u (by rw [e0, ← heq]; exact e1.symm)
        rwa [Nat.zero_add] at this
  · rw [if_neg hik] at e1
    rw [World.cell?_setCell_other _ _ _ _ (ne _ _ (by omega)), World.cell?_setCell_other _ _ _ _ (ne _ _ (by omega))]
    have := hc j u (by rw [e0]; exact e1.symm)
    rwa [Nat.zero_add] at this
end Go.Proofs.Ytaijjmhannhkcaa
