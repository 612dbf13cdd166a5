/- pile's numbers are a heap.Interface in the sense of HeapRep. -/
import Derived.Test.YtmfidemkmmbioaaGreatNums
namespace Go.Proofs.YtmfidemkmmbioaaGreat
open Go.RowKit

def nlt (x y : Int) : Bool := decide (x < y)

theorem nlt_ord : HL.Ord nlt where
  asymm := fun a b h => by unfold nlt at *; simp only [decide_eq_true_eq, decide_eq_false_iff_not] at *; omega
  trans := fun a b c h1 h2 => by unfold nlt at *; simp only [decide_eq_false_iff_not] at *; omega

theorem inv_nums_len (a : Addr) (v : Value) (w : World) (h : w.cell? a = some v) :
    (invoke (.fn (.method "Len") #[]) #[.iface 89 (.pointer (some a))]).run Tryz.prog w = .ok (.enter 167 #[v]) w := by
  have e : (invoke (.fn (.method "Len") #[]) #[.iface 89 (.pointer (some a))]).run Tryz.prog w = (match w.cell? a with
      | some v => .ok (.enter 167 #[v]) w
      | none => match w.farLoad Tryz.prog a false with
        | .ok (v, _) => .ok (.enter 167 #[v]) w
        | .error h => .halt h w) := by kernel_rfl
  rw [e, h]

theorem inv_nums_two (name : String) (f : FuncId) (i j : Int) (a : Addr) (v : Value) (w : World) (hn : (name = "Less" ∧ f = 168) ∨ (name = "Swap" ∧ f = 169)) (h : w.cell? a = some v) :
    (invoke (.fn (.method name) #[]) (#[.iface 89 (.pointer (some a))] ++ #[.int .i64 i, .int .i64 j])).run Tryz.prog w = .ok (.enter f #[v, .int .i64 i, .int .i64 j]) w := by
  rcases hn with ⟨rfl, rfl⟩ | ⟨rfl, rfl⟩
  · have e : (invoke (.fn (.method "Less") #[]) (#[.iface 89 (.pointer (some a))] ++ #[.int .i64 i, .int .i64 j])).run Tryz.prog w = (match w.cell? a with
        | some v => .ok (.enter 168 #[v, .int .i64 i, .int .i64 j]) w
        | none => match w.farLoad Tryz.prog a false with
          | .ok (v, _) => .ok (.enter 168 #[v, .int .i64 i, .int .i64 j]) w
          | .error h => .halt h w) := by kernel_rfl
    rw [e, h]
  · have e : (invoke (.fn (.method "Swap") #[]) (#[.iface 89 (.pointer (some a))] ++ #[.int .i64 i, .int .i64 j])).run Tryz.prog w = (match w.cell? a with
        | some v => .ok (.enter 169 #[v, .int .i64 i, .int .i64 j]) w
        | none => match w.farLoad Tryz.prog a false with
          | .ok (v, _) => .ok (.enter 169 #[v, .int .i64 i, .int .i64 j]) w
          | .error h => .halt h w) := by kernel_rfl
    rw [e, h]

theorem inv_nums_push (a : Addr) (x : Value) (w : World) :
    (invoke (.fn (.method "Push") #[]) (#[.iface 89 (.pointer (some a))] ++ #[x])).run Tryz.prog w = .ok (.enter 170 #[.pointer (some a), x]) w := by kernel_rfl

/-- The slot ⟨ab, ao⟩ holds the slice v, whose row is the list l. -/
def NumsI (ab ao base : Nat) (v : Value) (l : List Int) (w : World) : Prop :=
  w.cell? ⟨ab, ao, none⟩ = some v ∧ w.frozen? ⟨ab, ao, none⟩ = false ∧ w.ownsRow base 3 1 v l.length (rowOf ncells l) ∧ v.ownBlock ≠ some ab ∧ l.length ≤ 1000000 ∧ base ≤ w.heap.size

def OwnN (v : Value) (w w' : World) : Prop := Fr (fun k => v.ownBlock = some k) w w'

theorem NumsI.cells {ab ao base g n cap : Nat} {l : List Int} {w : World} (h : NumsI ab ao base (.slice (some ⟨g, 0, none⟩) n cap) l w) (hn : n = l.length) (k : Nat) (hk : k < l.length) :
    w.cell? ⟨g, k, none⟩ = some (.int .i64 (HL.el l k)) := by
  subst hn
  have ho := h.2.2.1
  have r0 := rowOf_at ncells ncells_length l k 0 hk (by omega)
  rw [Nat.mul_one, Nat.add_zero] at r0
  rw [ho.cellAt k (by omega)]
  exact r0

theorem NumsI.keep {ab ao base : Nat} {v : Value} {l : List Int} {w w' : World} (h : NumsI ab ao base v l w) {S : Nat → Prop} (hf : Fr S w w') (h1 : ¬ S ab) (h2 : ∀ g, v.ownBlock = some g → ¬ S g) : NumsI ab ao base v l w' := by
  obtain ⟨a, b, c, d, e, f⟩ := h
  have hlt := cell_lt a
  exact ⟨(hf.cell hlt h1).trans a, (hf.frozen hlt h1).trans b, hf.owns c h2, d, e, Nat.le_trans f hf.size⟩

theorem NumsI.set {ab ao base g n cap : Nat} {l : List Int} {w : World} (h : NumsI ab ao base (.slice (some ⟨g, 0, none⟩) n cap) l w) (k : Nat) (hk : k < l.length) (x : Int) :
    NumsI ab ao base (.slice (some ⟨g, 0, none⟩) n cap) (l.set k x) (w.setCell ⟨g, k, none⟩ (.int .i64 x)) ∧ OwnN (.slice (some ⟨g, 0, none⟩) n cap) w (w.setCell ⟨g, k, none⟩ (.int .i64 x)) := by
  obtain ⟨a, b, c, d, e, f⟩ := h
  have hn : n = l.length := by
    obtain ⟨p, cp, hv⟩ := owns_slice c
    injection hv
  subst hn
  have s1 := c.stored k (.int .i64 x)
  have hF : OwnN (.slice (some ⟨g, 0, none⟩) l.length cap) w (w.setCell ⟨g, k, none⟩ (.int .i64 x)) :=
    (Fr.refl (fun i => Value.ownBlock (.slice (some ⟨g, 0, none⟩) l.length cap) = some i) w).setCell (p := ⟨g, k, none⟩) (fun _ => rfl) _
  have hlt := cell_lt a
  have hns : ¬ (Value.ownBlock (.slice (some ⟨g, 0, none⟩) l.length cap) = some ab) := d
  refine ⟨⟨(hF.cell hlt hns).trans a, (hF.frozen hlt hns).trans b, ?_, d, by rw [List.length_set]; exact e, Nat.le_trans f hF.size⟩, hF⟩
  rw [List.length_set, ← rowOf_set1 ncells ncells_length l k x _ rfl hk]
  exact s1.1

theorem NumsI.drew {ab ao base : Nat} {v : Value} {l : List Int} {w : World} (h : NumsI ab ao base v l w) : NumsI ab ao base v l w.drew := h
theorem NumsI.drewN {ab ao base : Nat} {v : Value} {l : List Int} {w : World} (h : NumsI ab ao base v l w) (m : Nat) : NumsI ab ao base v l (w.drewN m) := h

theorem nums_rep (ab ao base : Nat) (v : Value) : HeapRep Tryz.prog (.iface 89 (.pointer (some ⟨ab, ao, none⟩))) nlt (NumsI ab ao base v) (OwnN v) where
  refl := fun w => Fr.refl _ w
  trans := fun w1 w2 w3 h k => Fr.trans h k (fun i hi _ => hi)
  ord := nlt_ord
  small := fun l w h => h.2.2.2.2.1
  len := fun l w h => by
    obtain ⟨p, c, hv⟩ := owns_slice h.2.2.1
    refine ⟨_, _, inv_nums_len ⟨ab, ao, none⟩ v w h.1, ?_⟩
    rw [hv]
    refine (len_nums p l.length c w).mono ?_
    rintro e w' ⟨rfl, rfl⟩
    exact ⟨_, rfl, rfl, by rw [← hv]; exact h, Fr.refl _ _⟩
  less := fun l w h i j hi0 hi hj0 hj => by
    obtain ⟨g, cap, hv, _, hg, _⟩ := owns_len h.2.2.1 (by omega)
    have hx := (hv ▸ h).cells rfl i.toNat (by omega)
    have hy := (hv ▸ h).cells rfl j.toNat (by omega)
    refine ⟨_, _, inv_nums_two "Less" _ i j ⟨ab, ao, none⟩ v w (.inl ⟨rfl, rfl⟩) h.1, ?_⟩
    rw [hv]
    obtain ⟨i, rfl⟩ := Int.eq_ofNat_of_zero_le hi0
    obtain ⟨j, rfl⟩ := Int.eq_ofNat_of_zero_le hj0
    rw [Int.toNat_natCast] at hx hy
    refine (less_nums g l.length cap i j (HL.el l i) (HL.el l j) w (by omega) (by omega) hx hy).mono ?_
    rintro e w' ⟨rfl, m, rfl⟩
    refine ⟨_, rfl, rfl, ?_, (Fr.refl _ w).drewN m⟩
    rw [← hv]
    exact h
  swap := fun l w h i j hi0 hi hj0 hj => by
    obtain ⟨g, cap, hv, _, hg, _⟩ := owns_len h.2.2.1 (by omega)
    have h' := hv ▸ h
    have hx := h'.cells rfl i.toNat (by omega)
    have hy := h'.cells rfl j.toNat (by omega)
    refine ⟨_, _, inv_nums_two "Swap" _ i j ⟨ab, ao, none⟩ v w (.inr ⟨rfl, rfl⟩) h.1, ?_⟩
    rw [hv]
    obtain ⟨i, rfl⟩ := Int.eq_ofNat_of_zero_le hi0
    obtain ⟨j, rfl⟩ := Int.eq_ofNat_of_zero_le hj0
    rw [Int.toNat_natCast] at hx hy
    have s1 := h'.set i (by omega) (HL.el l j)
    have s2 := s1.1.set j (by rw [List.length_set]; omega) (HL.el l i)
    have hfz : ∀ k, w.frozen? ⟨g, k, none⟩ = false := fun k => h'.2.2.1.frozenAt k
    have hfin : NumsI ab ao base (.slice (some ⟨g, 0, none⟩) l.length cap) (HL.swp l i j) _ ∧ OwnN (.slice (some ⟨g, 0, none⟩) l.length cap) w _ := ⟨s2.1, Fr.trans s1.2 s2.2 (fun k hk _ => hk)⟩
    by_cases hij : i = j
    · subst hij
      refine (swap_nums_same g l.length cap i (HL.el l i) w (by omega) hx hfz).mono ?_
      rintro e w' ⟨rfl, rfl⟩
      rw [Int.toNat_natCast]
      exact ⟨_, rfl, hfin.1.drew, hfin.2.drew⟩
    · refine (swap_nums g l.length cap i j (HL.el l i) (HL.el l j) w (by omega) (by omega) hij hx hy hfz).mono ?_
      rintro e w' ⟨rfl, rfl⟩
      rw [Int.toNat_natCast, Int.toNat_natCast]
      exact ⟨_, rfl, hfin.1.drew, hfin.2.drew⟩

set_option maxHeartbeats 400000 in
/-- heap.Push on numbers. -/
theorem heap_push_nums (ab ao base : Nat) (v : Value) (l : List Int) (x : Int) (w : World) (h : NumsI ab ao base v l w) (hh : HL.IsHeap nlt l) (hn : l.length < 1000000) :
    Calls Tryz.prog 89 #[.iface 89 (.pointer (some ⟨ab, ao, none⟩)), .iface 3 (.int .i64 x)] w fun e w' => e = .returned (.tuple #[]) ∧
      ∃ v' l', NumsI ab ao base v' l' w' ∧ HL.IsHeap nlt l' ∧ l'.Perm (l ++ [x]) ∧ Fr (fun k => k = ab ∨ v.ownBlock = some k) w w' ∧ (∀ g, v'.ownBlock = some g → Lies v g w.heap.size) ∧ Others ab ao w w' := by
  refine heap_push (lt := nlt) ?_
  refine ⟨_, _, inv_nums_push _ _ w, (push_nums ab ao v base l.length (rowOf ncells l) x w h.1 h.2.1 h.2.2.1 h.2.2.2.1 (by omega) h.2.2.2.2.2).mono ?_⟩
  rintro e w1 ⟨rfl, g, cap, hc, hf, ho, hfr, hl, hg, hoth⟩
  refine ⟨_, rfl, NumsI ab ao base (.slice (some ⟨g, 0, none⟩) (l.length + 1) cap), OwnN (.slice (some ⟨g, 0, none⟩) (l.length + 1) cap), l, x, nums_rep ab ao base _, ⟨hc, hf, ?_, fun e => hg (by simpa [Value.ownBlock] using e), by simp; omega, Nat.le_trans h.2.2.2.2.2 hfr.size⟩, hh, ?_⟩
  · rw [rowOf_append, rowOf_one, List.length_append]; exact ho
  · intro l' w2 hI hF hp hh'
    refine ⟨_, l', hI, hh', hp, Fr.trans hfr hF (fun i hi hlt => ?_), fun g' hg' => ?_, hoth.trans (Others.of_block (hF.block ab (cell_lt hc) (fun e => hg (by simpa [Value.ownBlock] using e))))⟩
    · have : g = i := by simpa [Value.ownBlock] using hi
      subst this
      rcases hl with hl | hl
      · exact .inr hl
      · omega
    · have : g = g' := by simpa [Value.ownBlock] using hg'
      subst this
      exact hl




end Go.Proofs.YtmfidemkmmbioaaGreat
