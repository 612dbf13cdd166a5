/- pile's dues are a heap.Interface in the sense of HeapRep. -/
import Derived.Test.YtllmdhkeapabjaaDues
namespace Go.Proofs.Ytllmdhkeapabjaa
open Go.RowKit

def dcells (x : Int × Int × Int) : List Value := [.int .i64 x.1, .int .i64 x.2.1, .int .i64 x.2.2]
def dlt (x y : Int × Int × Int) : Bool := decide (cmpD x y < 0)

theorem cmpD_lt (x y : Int × Int × Int) : cmpD x y < 0 ↔ x.1 < y.1 ∨ (x.1 = y.1 ∧ x.2.1 < y.2.1) := by
  simp only [cmpD, orI, cmpI]
  split <;> split <;> (try split) <;> (try split) <;> omega

theorem dlt_iff (x y : Int × Int × Int) : dlt x y = true ↔ x.1 < y.1 ∨ (x.1 = y.1 ∧ x.2.1 < y.2.1) := by
  unfold dlt
  rw [decide_eq_true_eq, cmpD_lt]

theorem dlt_false (x y : Int × Int × Int) : dlt x y = false ↔ ¬ (x.1 < y.1 ∨ (x.1 = y.1 ∧ x.2.1 < y.2.1)) := by
  rw [← dlt_iff]
  simp

theorem dlt_ord : HL.Ord dlt where
  asymm := fun a b h => by rw [dlt_iff] at h; rw [dlt_false]; omega
  trans := fun a b c h1 h2 => by rw [dlt_false] at *; omega

theorem inv_dues_two (name : String) (f : FuncId) (i j : Int) (a : Addr) (v : Value) (w : World) (hn : (name = "Less" ∧ f = 96) ∨ (name = "Swap" ∧ f = 97)) (h : w.cell? a = some v) :
    (invoke (.fn (.method name) #[]) (#[.iface 48 (.pointer (some a))] ++ #[.int .i64 i, .int .i64 j])).run Try.prog w = .ok (.enter f #[v, .int .i64 i, .int .i64 j]) w := by
  rcases hn with ⟨rfl, rfl⟩ | ⟨rfl, rfl⟩
  · have e : (invoke (.fn (.method "Less") #[]) (#[.iface 48 (.pointer (some a))] ++ #[.int .i64 i, .int .i64 j])).run Try.prog w = (match w.cell? a with
        | some v => .ok (.enter 96 #[v, .int .i64 i, .int .i64 j]) w
        | none => match w.farLoad Try.prog a false with
          | .ok (v, _) => .ok (.enter 96 #[v, .int .i64 i, .int .i64 j]) w
          | .error h => .halt h w) := by kernel_rfl
    rw [e, h]
  · have e : (invoke (.fn (.method "Swap") #[]) (#[.iface 48 (.pointer (some a))] ++ #[.int .i64 i, .int .i64 j])).run Try.prog w = (match w.cell? a with
        | some v => .ok (.enter 97 #[v, .int .i64 i, .int .i64 j]) w
        | none => match w.farLoad Try.prog a false with
          | .ok (v, _) => .ok (.enter 97 #[v, .int .i64 i, .int .i64 j]) w
          | .error h => .halt h w) := by kernel_rfl
    rw [e, h]

theorem inv_dues_push (a : Addr) (x : Value) (w : World) :
    (invoke (.fn (.method "Push") #[]) (#[.iface 48 (.pointer (some a))] ++ #[x])).run Try.prog w = .ok (.enter 99 #[.pointer (some a), x]) w := by kernel_rfl
theorem inv_dues_pop (a : Addr) (w : World) :
    (invoke (.fn (.method "Pop") #[]) (#[.iface 48 (.pointer (some a))] ++ #[])).run Try.prog w = .ok (.enter 98 #[.pointer (some a)]) w := by kernel_rfl

/-- The slot ⟨ab, ao⟩ holds the slice v, whose row is the list l. -/
def DuesI (ab ao base : Nat) (v : Value) (l : List (Int × Int × Int)) (w : World) : Prop :=
  w.cell? ⟨ab, ao, none⟩ = some v ∧ w.frozen? ⟨ab, ao, none⟩ = false ∧ w.ownsRow base 28 3 v l.length (rowOf dcells l) ∧ v.ownBlock ≠ some ab ∧ l.length ≤ 1000000 ∧ base ≤ w.heap.size

def OwnF (v : Value) (w w' : World) : Prop := Fr (fun k => v.ownBlock = some k) w w'

theorem dcells_length (x : Int × Int × Int) : (dcells x).length = 3 := rfl

theorem DuesI.cells {ab ao base g n cap : Nat} {l : List (Int × Int × Int)} {w : World} (h : DuesI ab ao base (.slice (some ⟨g, 0, none⟩) n cap) l w) (hn : n = l.length) (k : Nat) (hk : k < l.length) :
    w.cell? ⟨g, k * 3, none⟩ = some (.int .i64 (HL.el l k).1) ∧ w.cell? ⟨g, k * 3 + 1, none⟩ = some (.int .i64 (HL.el l k).2.1) ∧ w.cell? ⟨g, k * 3 + 2, none⟩ = some (.int .i64 (HL.el l k).2.2) := by
  subst hn
  have ho := h.2.2.1
  have r0 := rowOf_at dcells dcells_length l k 0 hk (by omega)
  have r1 := rowOf_at dcells dcells_length l k 1 hk (by omega)
  have r2 := rowOf_at dcells dcells_length l k 2 hk (by omega)
  refine ⟨?_, ?_, ?_⟩
  · rw [ho.cellAt (k * 3) (by omega)]; exact r0
  · rw [ho.cellAt (k * 3 + 1) (by omega)]; exact r1
  · rw [ho.cellAt (k * 3 + 2) (by omega)]; exact r2

theorem DuesI.keep {ab ao base : Nat} {v : Value} {l : List (Int × Int × Int)} {w w' : World} (h : DuesI ab ao base v l w) {S : Nat → Prop} (hf : Fr S w w') (h1 : ¬ S ab) (h2 : ∀ g, v.ownBlock = some g → ¬ S g) : DuesI ab ao base v l w' := by
  obtain ⟨a, b, c, d, e, f⟩ := h
  have hlt := cell_lt a
  exact ⟨(hf.cell hlt h1).trans a, (hf.frozen hlt h1).trans b, hf.owns c h2, d, e, Nat.le_trans f hf.size⟩

theorem DuesI.set {ab ao base g n cap : Nat} {l : List (Int × Int × Int)} {w : World} (h : DuesI ab ao base (.slice (some ⟨g, 0, none⟩) n cap) l w) (k : Nat) (hk : k < l.length) (x : Int × Int × Int) :
    DuesI ab ao base (.slice (some ⟨g, 0, none⟩) n cap) (l.set k x) (((w.setCell ⟨g, k * 3, none⟩ (.int .i64 x.1)).setCell ⟨g, k * 3 + 1, none⟩ (.int .i64 x.2.1)).setCell ⟨g, k * 3 + 2, none⟩ (.int .i64 x.2.2)) ∧
      OwnF (.slice (some ⟨g, 0, none⟩) n cap) w (((w.setCell ⟨g, k * 3, none⟩ (.int .i64 x.1)).setCell ⟨g, k * 3 + 1, none⟩ (.int .i64 x.2.1)).setCell ⟨g, k * 3 + 2, none⟩ (.int .i64 x.2.2)) := by
  obtain ⟨a, b, c, d, e, f⟩ := h
  have hn : n = l.length := by
    obtain ⟨p, cp, hv⟩ := owns_slice c
    injection hv
  subst hn
  have hg : g ≠ ab := fun e => d (by rw [← e]; rfl)
  have s1 := c.stored (k * 3) (.int .i64 x.1)
  have s2 := s1.1.stored (k * 3 + 1) (.int .i64 x.2.1)
  have s3 := s2.1.stored (k * 3 + 2) (.int .i64 x.2.2)
  have hF : OwnF (.slice (some ⟨g, 0, none⟩) l.length cap) w (((w.setCell ⟨g, k * 3, none⟩ (.int .i64 x.1)).setCell ⟨g, k * 3 + 1, none⟩ (.int .i64 x.2.1)).setCell ⟨g, k * 3 + 2, none⟩ (.int .i64 x.2.2)) :=
    (((Fr.refl (fun i => Value.ownBlock (.slice (some ⟨g, 0, none⟩) l.length cap) = some i) w).setCell (p := ⟨g, k * 3, none⟩) (fun _ => rfl) _).setCell (p := ⟨g, k * 3 + 1, none⟩) (fun _ => rfl) _).setCell (p := ⟨g, k * 3 + 2, none⟩) (fun _ => rfl) _
  have hlt := cell_lt a
  have hns : ¬ (Value.ownBlock (.slice (some ⟨g, 0, none⟩) l.length cap) = some ab) := d
  refine ⟨⟨(hF.cell hlt hns).trans a, (hF.frozen hlt hns).trans b, ?_, d, by rw [List.length_set]; exact e, Nat.le_trans f hF.size⟩, hF⟩
  rw [List.length_set, ← rowOf_set3 dcells dcells_length l k x _ _ _ rfl hk]
  exact s3.1

theorem DuesI.drew {ab ao base : Nat} {v : Value} {l : List (Int × Int × Int)} {w : World} (h : DuesI ab ao base v l w) : DuesI ab ao base v l w.drew := h

theorem dues_rep (ab ao base : Nat) (v : Value) : HeapRep Try.prog (.iface 48 (.pointer (some ⟨ab, ao, none⟩))) dlt (DuesI ab ao base v) (OwnF v) where
  refl := fun w => Fr.refl _ w
  trans := fun w1 w2 w3 h k => Fr.trans h k (fun i hi _ => hi)
  ord := dlt_ord
  small := fun l w h => h.2.2.2.2.1
  len := fun l w h => by
    obtain ⟨p, c, hv⟩ := owns_slice h.2.2.1
    refine ⟨_, _, inv_dues_len ⟨ab, ao, none⟩ v w h.1, ?_⟩
    rw [hv]
    refine (len_dues p l.length c w).mono ?_
    rintro e w' ⟨rfl, rfl⟩
    exact ⟨_, rfl, rfl, by rw [← hv]; exact h, Fr.refl _ _⟩
  less := fun l w h i j hi0 hi hj0 hj => by
    obtain ⟨g, cap, hv, _, hg, _⟩ := owns_len h.2.2.1 (by omega)
    have hx := (hv ▸ h).cells rfl i.toNat (by omega)
    have hy := (hv ▸ h).cells rfl j.toNat (by omega)
    refine ⟨_, _, inv_dues_two "Less" _ i j ⟨ab, ao, none⟩ v w (.inl ⟨rfl, rfl⟩) h.1, ?_⟩
    rw [hv]
    refine (less_dues g l.length cap i j (HL.el l i.toNat) (HL.el l j.toNat) w hi0 hi hj0 hj hx.1 hx.2.1 hx.2.2 hy.1 hy.2.1 hy.2.2).mono ?_
    rintro e w' ⟨rfl, hb⟩
    refine ⟨_, rfl, rfl, ?_, Fr.of_all hb⟩
    rw [← hv]
    exact h.keep (Fr.of_all (S := fun _ => False) hb) (fun h => h) (fun _ _ h => h)
  swap := fun l w h i j hi0 hi hj0 hj => by
    obtain ⟨g, cap, hv, _, hg, _⟩ := owns_len h.2.2.1 (by omega)
    have h' := hv ▸ h
    have hx := h'.cells rfl i.toNat (by omega)
    have hy := h'.cells rfl j.toNat (by omega)
    refine ⟨_, _, inv_dues_two "Swap" _ i j ⟨ab, ao, none⟩ v w (.inr ⟨rfl, rfl⟩) h.1, ?_⟩
    rw [hv]
    obtain ⟨i, rfl⟩ := Int.eq_ofNat_of_zero_le hi0
    obtain ⟨j, rfl⟩ := Int.eq_ofNat_of_zero_le hj0
    rw [Int.toNat_natCast] at hx hy
    have s1 := h'.set i (by omega) (HL.el l j)
    have s2 := s1.1.set j (by rw [List.length_set]; omega) (HL.el l i)
    have hfz : ∀ k, w.frozen? ⟨g, k, none⟩ = false := fun k => h'.2.2.1.frozenAt k
    have hfin : DuesI ab ao base (.slice (some ⟨g, 0, none⟩) l.length cap) (HL.swp l i j) _ ∧ OwnF (.slice (some ⟨g, 0, none⟩) l.length cap) w _ := ⟨s2.1, Fr.trans s1.2 s2.2 (fun k hk _ => hk)⟩
    by_cases hij : i = j
    · subst hij
      refine (swap_dues_same g l.length cap i (HL.el l i) w (by omega) hx.1 hx.2.1 hx.2.2 hfz).mono ?_
      rintro e w' ⟨rfl, rfl⟩
      rw [Int.toNat_natCast]
      exact ⟨_, rfl, hfin.1.drew, hfin.2.drew⟩
    · refine (swap_dues g l.length cap i j (HL.el l i) (HL.el l j) w (by omega) (by omega) hij hx.1 hx.2.1 hx.2.2 hy.1 hy.2.1 hy.2.2 hfz).mono ?_
      rintro e w' ⟨rfl, rfl⟩
      rw [Int.toNat_natCast, Int.toNat_natCast]
      exact ⟨_, rfl, hfin.1.drew, hfin.2.drew⟩
set_option maxHeartbeats 400000 in
/-- heap.Push on dues. -/
theorem heap_push_dues (ab ao base : Nat) (v : Value) (l : List (Int × Int × Int)) (x : Int × Int × Int) (w : World) (h : DuesI ab ao base v l w) (hh : HL.IsHeap dlt l) (hn : l.length < 1000000) :
    Calls Try.prog 23 #[.iface 48 (.pointer (some ⟨ab, ao, none⟩)), .iface 28 (dv x)] w fun e w' => e = .returned (.tuple #[]) ∧
      ∃ v' l', DuesI ab ao base v' l' w' ∧ HL.IsHeap dlt l' ∧ l'.Perm (l ++ [x]) ∧ Fr (fun k => k = ab ∨ v.ownBlock = some k) w w' ∧ (∀ g, v'.ownBlock = some g → Lies v g w.heap.size) ∧ Others ab ao w w' := by
  refine heap_push (lt := dlt) ?_
  refine ⟨_, _, inv_dues_push _ _ w, (push_dues ab ao v base l.length (rowOf dcells l) x w h.1 h.2.1 h.2.2.1 h.2.2.2.1 (by omega) h.2.2.2.2.2).mono ?_⟩
  rintro e w1 ⟨rfl, g, cap, hc, hf, ho, hfr, hl, hg, hoth⟩
  refine ⟨_, rfl, DuesI ab ao base (.slice (some ⟨g, 0, none⟩) (l.length + 1) cap), OwnF (.slice (some ⟨g, 0, none⟩) (l.length + 1) cap), l, x, dues_rep ab ao base _, ⟨hc, hf, ?_, fun e => hg (by simpa [Value.ownBlock] using e), by simp; omega, Nat.le_trans h.2.2.2.2.2 hfr.size⟩, hh, ?_⟩
  · rw [rowOf_append, rowOf_one, List.length_append]; exact ho
  · intro l' w2 hI hF hp hh'
    refine ⟨_, l', hI, hh', hp, Fr.trans hfr hF (fun i hi hlt => ?_), fun g' hg' => ?_, hoth.trans (Others.of_block (hF.block ab (cell_lt hc) (fun e => hg (by simpa [Value.ownBlock] using e))))⟩
    · have : g = i := by simpa [Value.ownBlock] using hi
      subst this
      rcases hl with hl | hl
      · exact .inr hl
      · omega
    · have : g = g' := by simpa [Value.ownBlock] using hg'
      subst this
      exact hl

/-- heap.Pop on dues. -/
theorem heap_pop_dues (ab ao base : Nat) (v : Value) (l : List (Int × Int × Int)) (w : World) (h : DuesI ab ao base v l w) (hh : HL.IsHeap dlt l) (hn : 0 < l.length) :
    Calls Try.prog 24 #[.iface 48 (.pointer (some ⟨ab, ao, none⟩))] w fun e w' => ∃ u, e = .returned u ∧
      ∃ v' l', u = .iface 28 (dv (HL.el l 0)) ∧ DuesI ab ao base v' l' w' ∧ HL.IsHeap dlt l' ∧ (HL.el l 0 :: l').Perm l ∧ Fr (fun k => k = ab ∨ v.ownBlock = some k) w w' ∧ v'.ownBlock = v.ownBlock ∧ Others ab ao w w' := by
  refine heap_pop (dues_rep ab ao base v) l h hn hh ?_
  intro l' w1 hI hF hp hh'
  obtain ⟨g, cap, hv, _, hg, hcap⟩ := owns_len hI.2.2.1 (by simp)
  have hI' := hv ▸ hI
  have hx := hI'.cells rfl l'.length (by simp)
  rw [show HL.el (l' ++ [HL.el l 0]) l'.length = HL.el l 0 from HL.el_append_right l' _] at hx
  have hlen : (l' ++ [HL.el l 0]).length = l'.length + 1 := by simp
  rw [hlen] at hI' hcap
  refine ⟨_, _, inv_dues_pop _ w1, (pop_dues ab ao g l'.length cap (HL.el l 0) w1 hI'.1 hI'.2.1 hx.1 hx.2.1 hx.2.2 hcap (by have := hI.2.2.2.2.1; simp at this; omega)).mono ?_⟩
  rintro e w2 ⟨rfl, rfl⟩
  have hab : g ≠ ab := fun e => hI'.2.2.2.1 (by rw [e]; rfl)
  have hob : v.ownBlock = some g := by rw [hv]; rfl
  have hF2 : Fr (fun k => k = ab) w1 ((w1.setCell ⟨ab, ao, none⟩ (.slice (some ⟨g, 0, none⟩) l'.length cap)).alloc (.cells #[.int .i64 (HL.el l 0).1, .int .i64 (HL.el l 0).2.1, .int .i64 (HL.el l 0).2.2] 28)) :=
    ((Fr.refl (fun k => k = ab) w1).setCell (p := ⟨ab, ao, none⟩) (fun _ => rfl) _).alloc _
  refine ⟨_, rfl, .slice (some ⟨g, 0, none⟩) l'.length cap, l', rfl, ⟨?_, ?_, ?_, fun e => hab (by simpa [Value.ownBlock] using e), by have := hI.2.2.2.2.1; simp at this; omega, Nat.le_trans hI.2.2.2.2.2 hF2.size⟩, hh', hp, ?_, hob.symm, ?_⟩
  · rw [World.cell?_alloc_lt _ _ _ (by have := cell_lt hI'.1; simpa [World.setCell] using this)]
    exact cell_set_same _ _ _ _ hI'.1
  · have hlt := cell_lt hI'.1
    have : ((w1.setCell ⟨ab, ao, none⟩ (.slice (some ⟨g, 0, none⟩) l'.length cap)).alloc (.cells #[.int .i64 (HL.el l 0).1, .int .i64 (HL.el l 0).2.1, .int .i64 (HL.el l 0).2.2] 28)).frozen? ⟨ab, ao, none⟩ = (w1.setCell ⟨ab, ao, none⟩ (.slice (some ⟨g, 0, none⟩) l'.length cap)).frozen? ⟨ab, ao, none⟩ :=
      World.frozen?_of_block (Below.heap_alloc _ _ _ (by simpa [World.setCell] using hlt))
    rw [this, frozen_set]
    exact hI'.2.1
  · have ho := hF2.owns hI'.2.2.1 (fun g' hg' => by have : g = g' := by simpa [Value.ownBlock] using hg'
                                                    subst this; exact hab)
    rw [rowOf_append, hlen] at ho
    exact ownsRow_pop (rowOf_length dcells dcells_length l') ho
  · exact Fr.trans (Fr.mono hF (fun i _ hi => .inr hi)) hF2 (fun i hi _ => .inl hi)
  · have hlt := cell_lt h.1
    have hlt1 := cell_lt hI'.1
    refine (Others.of_block (hF.block ab hlt (fun e => hab (by rw [hob] at e; simpa using e)))).trans ((Others.set ab ao w1 _).trans (Others.of_block (Below.heap_alloc _ _ _ (by simpa [World.setCell] using hlt1))))
end Go.Proofs.Ytllmdhkeapabjaa
