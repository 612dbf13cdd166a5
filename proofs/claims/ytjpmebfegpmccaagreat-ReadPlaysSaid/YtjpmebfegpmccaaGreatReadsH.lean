/- read's reads are a heap.Interface in the sense of HeapRep. -/
import Derived.Test.YtjpmebfegpmccaaGreatReads
namespace Go.Proofs.YtjpmebfegpmccaaGreat
open Go.RowKit

def wcells (x : Wt) : List Value := [.int .i64 x.1, .int .i64 x.2.1, .int .i64 x.2.2.1, .int .i64 x.2.2.2]
def wlt (x y : Wt) : Bool := decide (cmpW x y < 0)

theorem cmpW_lt (x y : Wt) : cmpW x y < 0 ↔ x.2.2.1 < y.2.2.1 ∨ (x.2.2.1 = y.2.2.1 ∧ (x.2.1 < y.2.1 ∨ (x.2.1 = y.2.1 ∧ x.2.2.2 < y.2.2.2))) := by
  have h3 : ∀ a b : Int, cmpI a b = -1 ∧ a < b ∨ cmpI a b = 1 ∧ b < a ∨ cmpI a b = 0 ∧ a = b := by
    intro a b
    unfold cmpI
    split
    · exact .inl ⟨rfl, by assumption⟩
    · split
      · exact .inr (.inl ⟨rfl, by assumption⟩)
      · exact .inr (.inr ⟨rfl, by omega⟩)
  unfold cmpW
  rcases h3 x.2.2.1 y.2.2.1 with ⟨e, h⟩ | ⟨e, h⟩ | ⟨e, h⟩ <;> rcases h3 x.2.1 y.2.1 with ⟨e', h'⟩ | ⟨e', h'⟩ | ⟨e', h'⟩ <;> rcases h3 x.2.2.2 y.2.2.2 with ⟨e'', h''⟩ | ⟨e'', h''⟩ | ⟨e'', h''⟩ <;> simp [orI, e, e', e''] <;> omega

theorem wlt_iff (x y : Wt) : wlt x y = true ↔ x.2.2.1 < y.2.2.1 ∨ (x.2.2.1 = y.2.2.1 ∧ (x.2.1 < y.2.1 ∨ (x.2.1 = y.2.1 ∧ x.2.2.2 < y.2.2.2))) := by
  unfold wlt
  rw [decide_eq_true_eq, cmpW_lt]

theorem wlt_false (x y : Wt) : wlt x y = false ↔ ¬ (x.2.2.1 < y.2.2.1 ∨ (x.2.2.1 = y.2.2.1 ∧ (x.2.1 < y.2.1 ∨ (x.2.1 = y.2.1 ∧ x.2.2.2 < y.2.2.2)))) := by
  rw [← wlt_iff]
  simp

theorem wlt_ord : HL.Ord wlt where
  asymm := fun a b h => by rw [wlt_iff] at h; rw [wlt_false]; omega
  trans := fun a b c h1 h2 => by rw [wlt_false] at *; omega

theorem inv_reads_len (a : Addr) (v : Value) (w : World) (h : w.cell? a = some v) :
    (invoke (.fn (.method "Len") #[]) #[.iface 64 (.pointer (some a))]).run Tryz.prog w = .ok (.enter 118 #[v]) w := by
  have e : (invoke (.fn (.method "Len") #[]) #[.iface 64 (.pointer (some a))]).run Tryz.prog w = (match w.cell? a with
      | some v => .ok (.enter 118 #[v]) w
      | none => match w.farLoad Tryz.prog a false with
        | .ok (v, _) => .ok (.enter 118 #[v]) w
        | .error h => .halt h w) := by kernel_rfl
  rw [e, h]

theorem inv_reads_two (name : String) (f : FuncId) (i j : Int) (a : Addr) (v : Value) (w : World) (hn : (name = "Less" ∧ f = 119) ∨ (name = "Swap" ∧ f = 120)) (h : w.cell? a = some v) :
    (invoke (.fn (.method name) #[]) (#[.iface 64 (.pointer (some a))] ++ #[.int .i64 i, .int .i64 j])).run Tryz.prog w = .ok (.enter f #[v, .int .i64 i, .int .i64 j]) w := by
  rcases hn with ⟨rfl, rfl⟩ | ⟨rfl, rfl⟩
  · have e : (invoke (.fn (.method "Less") #[]) (#[.iface 64 (.pointer (some a))] ++ #[.int .i64 i, .int .i64 j])).run Tryz.prog w = (match w.cell? a with
        | some v => .ok (.enter 119 #[v, .int .i64 i, .int .i64 j]) w
        | none => match w.farLoad Tryz.prog a false with
          | .ok (v, _) => .ok (.enter 119 #[v, .int .i64 i, .int .i64 j]) w
          | .error h => .halt h w) := by kernel_rfl
    rw [e, h]
  · have e : (invoke (.fn (.method "Swap") #[]) (#[.iface 64 (.pointer (some a))] ++ #[.int .i64 i, .int .i64 j])).run Tryz.prog w = (match w.cell? a with
        | some v => .ok (.enter 120 #[v, .int .i64 i, .int .i64 j]) w
        | none => match w.farLoad Tryz.prog a false with
          | .ok (v, _) => .ok (.enter 120 #[v, .int .i64 i, .int .i64 j]) w
          | .error h => .halt h w) := by kernel_rfl
    rw [e, h]

theorem inv_reads_push (a : Addr) (x : Value) (w : World) :
    (invoke (.fn (.method "Push") #[]) (#[.iface 64 (.pointer (some a))] ++ #[x])).run Tryz.prog w = .ok (.enter 126 #[.pointer (some a), x]) w := by kernel_rfl
theorem inv_reads_pop (a : Addr) (w : World) :
    (invoke (.fn (.method "Pop") #[]) (#[.iface 64 (.pointer (some a))] ++ #[])).run Tryz.prog w = .ok (.enter 125 #[.pointer (some a)]) w := by kernel_rfl

/-- The slot ⟨ab, ao⟩ holds the slice v, whose row is the list l. -/
def ReadsI (ab ao base : Nat) (v : Value) (l : List (Wt)) (w : World) : Prop :=
  w.cell? ⟨ab, ao, none⟩ = some v ∧ w.frozen? ⟨ab, ao, none⟩ = false ∧ w.ownsRow base 66 4 v l.length (rowOf wcells l) ∧ v.ownBlock ≠ some ab ∧ l.length ≤ 1000000 ∧ base ≤ w.heap.size

def OwnW (v : Value) (w w' : World) : Prop := Fr (fun k => v.ownBlock = some k) w w'

theorem wcells_length (x : Wt) : (wcells x).length = 4 := rfl

theorem ReadsI.cells {ab ao base g n cap : Nat} {l : List Wt} {w : World} (h : ReadsI ab ao base (.slice (some ⟨g, 0, none⟩) n cap) l w) (hn : n = l.length) (k : Nat) (hk : k < l.length) :
    w.cell? ⟨g, k * 4, none⟩ = some (.int .i64 (HL.el l k).1) ∧ w.cell? ⟨g, k * 4 + 1, none⟩ = some (.int .i64 (HL.el l k).2.1) ∧ w.cell? ⟨g, k * 4 + 2, none⟩ = some (.int .i64 (HL.el l k).2.2.1) ∧ w.cell? ⟨g, k * 4 + 3, none⟩ = some (.int .i64 (HL.el l k).2.2.2) := by
  subst hn
  have ho := h.2.2.1
  have r0 := rowOf_at wcells wcells_length l k 0 hk (by omega)
  have r1 := rowOf_at wcells wcells_length l k 1 hk (by omega)
  have r2 := rowOf_at wcells wcells_length l k 2 hk (by omega)
  have r3 := rowOf_at wcells wcells_length l k 3 hk (by omega)
  refine ⟨?_, ?_, ?_, ?_⟩
  · rw [ho.cellAt (k * 4) (by omega)]; exact r0
  · rw [ho.cellAt (k * 4 + 1) (by omega)]; exact r1
  · rw [ho.cellAt (k * 4 + 2) (by omega)]; exact r2
  · rw [ho.cellAt (k * 4 + 3) (by omega)]; exact r3

theorem ReadsI.keep {ab ao base : Nat} {v : Value} {l : List (Wt)} {w w' : World} (h : ReadsI ab ao base v l w) {S : Nat → Prop} (hf : Fr S w w') (h1 : ¬ S ab) (h2 : ∀ g, v.ownBlock = some g → ¬ S g) : ReadsI ab ao base v l w' := by
  obtain ⟨a, b, c, d, e, f⟩ := h
  have hlt := cell_lt a
  exact ⟨(hf.cell hlt h1).trans a, (hf.frozen hlt h1).trans b, hf.owns c h2, d, e, Nat.le_trans f hf.size⟩

theorem ReadsI.set {ab ao base g n cap : Nat} {l : List Wt} {w : World} (h : ReadsI ab ao base (.slice (some ⟨g, 0, none⟩) n cap) l w) (k : Nat) (hk : k < l.length) (x : Wt) :
    ReadsI ab ao base (.slice (some ⟨g, 0, none⟩) n cap) (l.set k x) (put4 w g k x) ∧ OwnW (.slice (some ⟨g, 0, none⟩) n cap) w (put4 w g k x) := by
  obtain ⟨a, b, c, d, e, f⟩ := h
  have hn : n = l.length := by
    obtain ⟨p, cp, hv⟩ := owns_slice c
    injection hv
  subst hn
  have s1 := c.stored (k * 4) (.int .i64 x.1)
  have s2 := s1.1.stored (k * 4 + 1) (.int .i64 x.2.1)
  have s3 := s2.1.stored (k * 4 + 2) (.int .i64 x.2.2.1)
  have s4 := s3.1.stored (k * 4 + 3) (.int .i64 x.2.2.2)
  have hF : OwnW (.slice (some ⟨g, 0, none⟩) l.length cap) w (put4 w g k x) :=
    ((((Fr.refl (fun i => Value.ownBlock (.slice (some ⟨g, 0, none⟩) l.length cap) = some i) w).setCell (p := ⟨g, k * 4, none⟩) (fun _ => rfl) _).setCell (p := ⟨g, k * 4 + 1, none⟩) (fun _ => rfl) _).setCell (p := ⟨g, k * 4 + 2, none⟩) (fun _ => rfl) _).setCell (p := ⟨g, k * 4 + 3, none⟩) (fun _ => rfl) _
  have hlt := cell_lt a
  have hns : ¬ (Value.ownBlock (.slice (some ⟨g, 0, none⟩) l.length cap) = some ab) := d
  refine ⟨⟨(hF.cell hlt hns).trans a, (hF.frozen hlt hns).trans b, ?_, d, by rw [List.length_set]; exact e, Nat.le_trans f hF.size⟩, hF⟩
  rw [List.length_set, ← rowOf_set4 wcells wcells_length l k x _ _ _ _ rfl hk]
  exact s4.1

theorem ReadsI.drew {ab ao base : Nat} {v : Value} {l : List (Wt)} {w : World} (h : ReadsI ab ao base v l w) : ReadsI ab ao base v l w.drew := h

theorem reads_rep (ab ao base : Nat) (v : Value) : HeapRep Tryz.prog (.iface 64 (.pointer (some ⟨ab, ao, none⟩))) wlt (ReadsI ab ao base v) (OwnW v) where
  refl := fun w => Fr.refl _ w
  trans := fun w1 w2 w3 h k => Fr.trans h k (fun i hi _ => hi)
  ord := wlt_ord
  small := fun l w h => h.2.2.2.2.1
  len := fun l w h => by
    obtain ⟨p, c, hv⟩ := owns_slice h.2.2.1
    refine ⟨_, _, inv_reads_len ⟨ab, ao, none⟩ v w h.1, ?_⟩
    rw [hv]
    refine (len_reads p l.length c w).mono ?_
    rintro e w' ⟨rfl, rfl⟩
    exact ⟨_, rfl, rfl, by rw [← hv]; exact h, Fr.refl _ _⟩
  less := fun l w h i j hi0 hi hj0 hj => by
    obtain ⟨g, cap, hv, _, hg, _⟩ := owns_len h.2.2.1 (by omega)
    have hx := (hv ▸ h).cells rfl i.toNat (by omega)
    have hy := (hv ▸ h).cells rfl j.toNat (by omega)
    refine ⟨_, _, inv_reads_two "Less" _ i j ⟨ab, ao, none⟩ v w (.inl ⟨rfl, rfl⟩) h.1, ?_⟩
    rw [hv]
    refine (less_reads g l.length cap i j (HL.el l i.toNat) (HL.el l j.toNat) w hi0 hi hj0 hj hx hy).mono ?_
    rintro e w' ⟨rfl, hb⟩
    refine ⟨_, rfl, rfl, ?_, Fr.of_all hb⟩
    rw [← hv]
    exact h.keep (Fr.of_all (S := fun _ => False) hb) (fun h => h) (fun _ _ h => h)
  swap := fun l w h i j hi0 hi hj0 hj => by
    obtain ⟨g, cap, hv, _, hg, _⟩ := owns_len h.2.2.1 (by omega)
    have h' := hv ▸ h
    have hx := h'.cells rfl i.toNat (by omega)
    have hy := h'.cells rfl j.toNat (by omega)
    refine ⟨_, _, inv_reads_two "Swap" _ i j ⟨ab, ao, none⟩ v w (.inr ⟨rfl, rfl⟩) h.1, ?_⟩
    rw [hv]
    obtain ⟨i, rfl⟩ := Int.eq_ofNat_of_zero_le hi0
    obtain ⟨j, rfl⟩ := Int.eq_ofNat_of_zero_le hj0
    rw [Int.toNat_natCast] at hx hy
    have s1 := h'.set i (by omega) (HL.el l j)
    have s2 := s1.1.set j (by rw [List.length_set]; omega) (HL.el l i)
    have hfz : ∀ k, w.frozen? ⟨g, k, none⟩ = false := fun k => h'.2.2.1.frozenAt k
    have hfin : ReadsI ab ao base (.slice (some ⟨g, 0, none⟩) l.length cap) (HL.swp l i j) _ ∧ OwnW (.slice (some ⟨g, 0, none⟩) l.length cap) w _ := ⟨s2.1, Fr.trans s1.2 s2.2 (fun k hk _ => hk)⟩
    by_cases hij : i = j
    · subst hij
      refine (swap_reads_same g l.length cap i (HL.el l i) w (by omega) hx hfz).mono ?_
      rintro e w' ⟨rfl, rfl⟩
      rw [Int.toNat_natCast]
      exact ⟨_, rfl, hfin.1.drew, hfin.2.drew⟩
    · refine (swap_reads g l.length cap i j (HL.el l i) (HL.el l j) w (by omega) (by omega) hij hx hy hfz).mono ?_
      rintro e w' ⟨rfl, rfl⟩
      rw [Int.toNat_natCast, Int.toNat_natCast]
      exact ⟨_, rfl, hfin.1.drew, hfin.2.drew⟩
set_option maxHeartbeats 400000 in
/-- heap.Push on reads. -/
theorem heap_push_reads (ab ao base : Nat) (v : Value) (l : List (Wt)) (x : Wt) (w : World) (h : ReadsI ab ao base v l w) (hh : HL.IsHeap wlt l) (hn : l.length < 1000000) :
    Calls Tryz.prog 16 #[.iface 64 (.pointer (some ⟨ab, ao, none⟩)), .iface 66 (wv x)] w fun e w' => e = .returned (.tuple #[]) ∧
      ∃ v' l', ReadsI ab ao base v' l' w' ∧ HL.IsHeap wlt l' ∧ l'.Perm (l ++ [x]) ∧ Fr (fun k => k = ab ∨ v.ownBlock = some k) w w' ∧ (∀ g, v'.ownBlock = some g → Lies v g w.heap.size) ∧ Others ab ao w w' := by
  refine heap_push (lt := wlt) ?_
  refine ⟨_, _, inv_reads_push _ _ w, (push_reads ab ao v base l.length (rowOf wcells l) x w h.1 h.2.1 h.2.2.1 h.2.2.2.1 (by omega) h.2.2.2.2.2).mono ?_⟩
  rintro e w1 ⟨rfl, g, cap, hc, hf, ho, hfr, hl, hg, hoth⟩
  refine ⟨_, rfl, ReadsI ab ao base (.slice (some ⟨g, 0, none⟩) (l.length + 1) cap), OwnW (.slice (some ⟨g, 0, none⟩) (l.length + 1) cap), l, x, reads_rep ab ao base _, ⟨hc, hf, ?_, fun e => hg (by simpa [Value.ownBlock] using e), by simp; omega, Nat.le_trans h.2.2.2.2.2 hfr.size⟩, hh, ?_⟩
  · rw [rowOf_append, rowOf_one, List.length_append]; exact ho
  · intro l' w2 hI hF hp hh'
    refine ⟨_, l', hI, hh', hp, Fr.trans hfr hF (fun i hi hlt => ?_), fun g' hg' => ?_, hoth.trans (Others.of_block (hF.block ab (cell_lt hc) (fun e => hg (by simpa [Value.ownBlock] using e))))⟩
    · have : g = i := by simpa [Value.ownBlock] using hi
      subst this
      rcases hl with hl | hl
      · exact .inr hl
      · omega
    · have : g = g' := by simpa [Value.ownBlock] using hg'
      subst this
      exact hl

/-- heap.Pop on reads. -/
theorem heap_pop_reads (ab ao base : Nat) (v : Value) (l : List (Wt)) (w : World) (h : ReadsI ab ao base v l w) (hh : HL.IsHeap wlt l) (hn : 0 < l.length) :
    Calls Tryz.prog 66 #[.iface 64 (.pointer (some ⟨ab, ao, none⟩))] w fun e w' => ∃ u, e = .returned u ∧
      ∃ v' l', u = .iface 66 (wv (HL.el l 0)) ∧ ReadsI ab ao base v' l' w' ∧ HL.IsHeap wlt l' ∧ (HL.el l 0 :: l').Perm l ∧ Fr (fun k => k = ab ∨ v.ownBlock = some k) w w' ∧ v'.ownBlock = v.ownBlock ∧ Others ab ao w w' := by
  refine heap_pop (reads_rep ab ao base v) l h hn hh ?_
  intro l' w1 hI hF hp hh'
  obtain ⟨g, cap, hv, _, hg, hcap⟩ := owns_len hI.2.2.1 (by simp)
  have hI' := hv ▸ hI
  have hx := hI'.cells rfl l'.length (by simp)
  rw [show HL.el (l' ++ [HL.el l 0]) l'.length = HL.el l 0 from HL.el_append_right l' _] at hx
  have hlen : (l' ++ [HL.el l 0]).length = l'.length + 1 := by simp
  rw [hlen] at hI' hcap
  refine ⟨_, _, inv_reads_pop _ w1, (pop_reads ab ao g l'.length cap (HL.el l 0) w1 hI'.1 hI'.2.1 hx hcap (by have := hI.2.2.2.2.1; simp at this; omega)).mono ?_⟩
  rintro e w2 ⟨rfl, rfl⟩
  have hab : g ≠ ab := fun e => hI'.2.2.2.1 (by rw [e]; rfl)
  have hob : v.ownBlock = some g := by rw [hv]; rfl
  have hF2 : Fr (fun k => k = ab) w1 ((w1.setCell ⟨ab, ao, none⟩ (.slice (some ⟨g, 0, none⟩) l'.length cap)).alloc (.cells #[.int .i64 (HL.el l 0).1, .int .i64 (HL.el l 0).2.1, .int .i64 (HL.el l 0).2.2.1, .int .i64 (HL.el l 0).2.2.2] 66)) :=
    ((Fr.refl (fun k => k = ab) w1).setCell (p := ⟨ab, ao, none⟩) (fun _ => rfl) _).alloc _
  refine ⟨_, rfl, .slice (some ⟨g, 0, none⟩) l'.length cap, l', rfl, ⟨?_, ?_, ?_, fun e => hab (by simpa [Value.ownBlock] using e), by have := hI.2.2.2.2.1; simp at this; omega, Nat.le_trans hI.2.2.2.2.2 hF2.size⟩, hh', hp, ?_, hob.symm, ?_⟩
  · rw [World.cell?_alloc_lt _ _ _ (by have := cell_lt hI'.1; simpa [World.setCell] using this)]
    exact cell_set_same _ _ _ _ hI'.1
  · have hlt := cell_lt hI'.1
    have : ((w1.setCell ⟨ab, ao, none⟩ (.slice (some ⟨g, 0, none⟩) l'.length cap)).alloc (.cells #[.int .i64 (HL.el l 0).1, .int .i64 (HL.el l 0).2.1, .int .i64 (HL.el l 0).2.2.1, .int .i64 (HL.el l 0).2.2.2] 66)).frozen? ⟨ab, ao, none⟩ = (w1.setCell ⟨ab, ao, none⟩ (.slice (some ⟨g, 0, none⟩) l'.length cap)).frozen? ⟨ab, ao, none⟩ :=
      World.frozen?_of_block (Below.heap_alloc _ _ _ (by simpa [World.setCell] using hlt))
    rw [this, frozen_set]
    exact hI'.2.1
  · have ho := hF2.owns hI'.2.2.1 (fun g' hg' => by have : g = g' := by simpa [Value.ownBlock] using hg'
                                                    subst this; exact hab)
    rw [rowOf_append, hlen] at ho
    exact ownsRow_pop (rowOf_length wcells wcells_length l') ho
  · exact Fr.trans (Fr.mono hF (fun i _ hi => .inr hi)) hF2 (fun i hi _ => .inl hi)
  · have hlt := cell_lt h.1
    have hlt1 := cell_lt hI'.1
    refine (Others.of_block (hF.block ab hlt (fun e => hab (by rw [hob] at e; simpa using e)))).trans ((Others.set ab ao w1 _).trans (Others.of_block (Below.heap_alloc _ _ _ (by simpa [World.setCell] using hlt1))))
end Go.Proofs.YtjpmebfegpmccaaGreat
