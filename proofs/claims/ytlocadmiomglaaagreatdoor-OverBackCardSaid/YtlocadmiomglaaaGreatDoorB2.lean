/- Merged texts: Nums NumsH Pile PileP ConfL Iter Sorted PileO Step. -/
import Derived.Test.YtlocadmiomglaaaGreatDoorB1
import Derived.Deep.QuietTactic
import Derived.BigQuiet
import Derived.Deep.RegionLaw
import Derived.BigRegion
import Derived.Deep.AppendLies
import Derived.Lib.SlicesCompact
import Derived.RangeFuncBox
import Derived.RangeFuncLeaves
import Derived.RangeFuncBound
import Derived.RangeFuncCalls
import Derived.Shelf.Abstract
import Derived.WalkKit
import Derived.OwnWalkIn
import Derived.TacticsInMore
import Derived.LoopNIn
import Derived.LoopIn
import Derived.Maps.AppendAt
import Derived.Test.YtlocadmiomglaaaGreatDoorLayS
import Derived.Lib.SlKeysI
/- pile's numbers as a heap.Interface: the contracts of its methods. -/
namespace Go.Proofs.YtlocadmiomglaaaGreatDoor
open Go.RowKit

theorem len_nums (p : Option Addr) (n c : Nat) (w : World) :
    Calls Tryz.prog 264 #[.slice p n c] w fun e w' => e = .returned (.int .i64 n) ∧ w = w' := by
  go_enter Tryz.func264, Tryz.ntmps264
  go_wp2
  go_ret
  exact ⟨rfl, rfl⟩

set_option maxHeartbeats 400000 in
set_option maxRecDepth 100000 in
theorem less_nums (g n cap i j : Nat) (x y : Int) (w : World) (hi : i < n) (hj : j < n) (hx : w.cell? ⟨g, i, none⟩ = some (.int .i64 x)) (hy : w.cell? ⟨g, j, none⟩ = some (.int .i64 y)) :
    Calls Tryz.prog 265 #[.slice (some ⟨g, 0, none⟩) n cap, .int .i64 i, .int .i64 j] w fun e w' => e = .returned (.bool (decide (x < y))) ∧ ∃ m, w' = w.drewN m := by
  go_enter Tryz.func265, Tryz.ntmps265
  go_wp2
  go_quiet (fail)
  go_wp2
  go_ret
  exact ⟨rfl, _, rfl⟩

set_option maxHeartbeats 400000 in
set_option maxRecDepth 100000 in
theorem swap_nums (g n cap i j : Nat) (x y : Int) (w : World) (hi : i < n) (hj : j < n) (hij : ¬ i = j) (hx : w.cell? ⟨g, i, none⟩ = some (.int .i64 x)) (hy : w.cell? ⟨g, j, none⟩ = some (.int .i64 y)) (hf : ∀ k, w.frozen? ⟨g, k, none⟩ = false) :
    Calls Tryz.prog 266 #[.slice (some ⟨g, 0, none⟩) n cap, .int .i64 i, .int .i64 j] w fun e w' => e = .returned (.tuple #[]) ∧ w' = ((w.setCell ⟨g, i, none⟩ (.int .i64 y)).setCell ⟨g, j, none⟩ (.int .i64 x)).drew := by
  go_enter Tryz.func266, Tryz.ntmps266
  go_wp2
  go_region
  go_end0
  exact ⟨rfl, rfl⟩

set_option maxHeartbeats 400000 in
set_option maxRecDepth 100000 in
theorem swap_nums_same (g n cap i : Nat) (x : Int) (w : World) (hi : i < n) (hx : w.cell? ⟨g, i, none⟩ = some (.int .i64 x)) (hf : ∀ k, w.frozen? ⟨g, k, none⟩ = false) :
    Calls Tryz.prog 266 #[.slice (some ⟨g, 0, none⟩) n cap, .int .i64 i, .int .i64 i] w fun e w' => e = .returned (.tuple #[]) ∧ w' = ((w.setCell ⟨g, i, none⟩ (.int .i64 x)).setCell ⟨g, i, none⟩ (.int .i64 x)).drew := by
  go_enter Tryz.func266, Tryz.ntmps266
  go_wp2
  go_region
  go_end0
  exact ⟨rfl, rfl⟩

theorem ta_int (v : Value) (w : World) : (Instr.typeAssert (.iface 3 v) 20 3 false).run Tryz.prog w = .ok v w := by kernel_rfl

set_option maxHeartbeats 400000 in
set_option maxRecDepth 100000 in
theorem push_nums (ab ao : Nat) (v : Value) (base n : Nat) (xs : List Value) (x : Int) (w : World) (hc : w.cell? ⟨ab, ao, none⟩ = some v) (hf : w.frozen? ⟨ab, ao, none⟩ = false)
    (ho : w.ownsRow base 3 1 v n xs) (hne : v.ownBlock ≠ some ab) (hn : n ≤ 1000000) (hb : base ≤ w.heap.size) :
    Calls Tryz.prog 268 #[.pointer (some ⟨ab, ao, none⟩), .iface 3 (.int .i64 x)] w fun e w' => e = .returned (.tuple #[]) ∧
      ∃ g cap, w'.cell? ⟨ab, ao, none⟩ = some (.slice (some ⟨g, 0, none⟩) (n + 1) cap) ∧ w'.frozen? ⟨ab, ao, none⟩ = false ∧ w'.ownsRow base 3 1 (.slice (some ⟨g, 0, none⟩) (n + 1) cap) (n + 1) (xs ++ [.int .i64 x]) ∧
        Fr (fun k => k = ab ∨ v.ownBlock = some k) w w' ∧ Lies v g w.heap.size ∧ g ≠ ab ∧ Others ab ao w w' := by
  obtain ⟨i0, hi0, hz0, hz1, hz2⟩ := info_parts info_int
  have hlt := cell_lt hc
  obtain ⟨p, c, rfl⟩ := owns_slice ho
  have HO := Lib.hid ho; clear ho
  have HN := Lib.hid hne; clear hne
  have hta := ta_int
  go_enter Tryz.func268, Tryz.ntmps268
  go_wp2
  go_region_law (refine step_append_lies _ rfl _ _ 167 rfl base 3 i0 _ 1 8 Tryz.underlying167 hi0 hz0 hz1 hz2 rfl (by omega) (.slice p n c) n xs rfl (HO.out.drew.alloc _) ⟨w.heap.size, 0, none⟩ 1 1 [.int .i64 x] rfl rfl (new_cells w.drew _ _) (by simp [Value.oneCell']) (by omega) (by unfold maxLen; omega) (by omega) (by simp; omega) (w.heap.size + 1) (by simp) ?_; intro g cap w1 hown hgr hat hg; have HOWN := Lib.hid hown; clear hown; have hpf := push_facts hlt HN.out hgr; have HFR := Lib.hid hpf; have hc1 := (World.cell?_of_block (a := ⟨ab, ao, none⟩) hpf.1).trans hc; have hf1 := (World.frozen?_of_block (a := ⟨ab, ao, none⟩) hpf.1).trans hf; have HAT := Lib.hid hat; clear hpf hat hgr)
  all_goals
    go_end0
    exact ⟨rfl, g, cap, push_end hlt HN.out HFR.out HOWN.out HAT.out (by omega) hc1 hf1⟩

set_option maxHeartbeats 400000 in
set_option maxRecDepth 100000 in
theorem pop_nums (ab ao g n cap : Nat) (x : Int) (w : World) (hc : w.cell? ⟨ab, ao, none⟩ = some (.slice (some ⟨g, 0, none⟩) (n + 1) cap)) (hf : w.frozen? ⟨ab, ao, none⟩ = false)
    (hx : w.cell? ⟨g, n, none⟩ = some (.int .i64 x)) (hn : n + 1 ≤ cap) (hm : n ≤ 1000000) :
    Calls Tryz.prog 267 #[.pointer (some ⟨ab, ao, none⟩)] w fun e w' => e = .returned (.iface 3 (.int .i64 x)) ∧ w' = w.setCell ⟨ab, ao, none⟩ (.slice (some ⟨g, 0, none⟩) n cap) := by
  have hlt := cell_lt hc
  have hlg := cell_lt hx
  go_enter Tryz.func267, Tryz.ntmps267
  go_wp2
  go_ret
  exact ⟨rfl, rfl⟩
end Go.Proofs.YtlocadmiomglaaaGreatDoor

/- pile's numbers are a heap.Interface in the sense of HeapRep. -/
namespace Go.Proofs.YtlocadmiomglaaaGreatDoor
open Go.RowKit

def nlt (x y : Int) : Bool := decide (x < y)

theorem nlt_ord : HL.Ord nlt where
  asymm := fun a b h => by unfold nlt at *; simp only [decide_eq_true_eq, decide_eq_false_iff_not] at *; omega
  trans := fun a b c h1 h2 => by unfold nlt at *; simp only [decide_eq_false_iff_not] at *; omega

theorem inv_nums_len (a : Addr) (v : Value) (w : World) (h : w.cell? a = some v) :
    (invoke (.fn (.method "Len") #[]) #[.iface 251 (.pointer (some a))]).run Tryz.prog w = .ok (.enter 264 #[v]) w := by
  have e : (invoke (.fn (.method "Len") #[]) #[.iface 251 (.pointer (some a))]).run Tryz.prog w = (match w.cell? a with
      | some v => .ok (.enter 264 #[v]) w
      | none => match w.farLoad Tryz.prog a false with
        | .ok (v, _) => .ok (.enter 264 #[v]) w
        | .error h => .halt h w) := by kernel_rfl
  rw [e, h]

theorem inv_nums_two (name : String) (f : FuncId) (i j : Int) (a : Addr) (v : Value) (w : World) (hn : (name = "Less" ∧ f = 265) ∨ (name = "Swap" ∧ f = 266)) (h : w.cell? a = some v) :
    (invoke (.fn (.method name) #[]) (#[.iface 251 (.pointer (some a))] ++ #[.int .i64 i, .int .i64 j])).run Tryz.prog w = .ok (.enter f #[v, .int .i64 i, .int .i64 j]) w := by
  rcases hn with ⟨rfl, rfl⟩ | ⟨rfl, rfl⟩
  · have e : (invoke (.fn (.method "Less") #[]) (#[.iface 251 (.pointer (some a))] ++ #[.int .i64 i, .int .i64 j])).run Tryz.prog w = (match w.cell? a with
        | some v => .ok (.enter 265 #[v, .int .i64 i, .int .i64 j]) w
        | none => match w.farLoad Tryz.prog a false with
          | .ok (v, _) => .ok (.enter 265 #[v, .int .i64 i, .int .i64 j]) w
          | .error h => .halt h w) := by kernel_rfl
    rw [e, h]
  · have e : (invoke (.fn (.method "Swap") #[]) (#[.iface 251 (.pointer (some a))] ++ #[.int .i64 i, .int .i64 j])).run Tryz.prog w = (match w.cell? a with
        | some v => .ok (.enter 266 #[v, .int .i64 i, .int .i64 j]) w
        | none => match w.farLoad Tryz.prog a false with
          | .ok (v, _) => .ok (.enter 266 #[v, .int .i64 i, .int .i64 j]) w
          | .error h => .halt h w) := by kernel_rfl
    rw [e, h]

theorem inv_nums_push (a : Addr) (x : Value) (w : World) :
    (invoke (.fn (.method "Push") #[]) (#[.iface 251 (.pointer (some a))] ++ #[x])).run Tryz.prog w = .ok (.enter 268 #[.pointer (some a), x]) w := by kernel_rfl
theorem inv_nums_pop (a : Addr) (w : World) :
    (invoke (.fn (.method "Pop") #[]) (#[.iface 251 (.pointer (some a))] ++ #[])).run Tryz.prog w = .ok (.enter 267 #[.pointer (some a)]) w := by kernel_rfl

/-- The slot ⟨ab, ao⟩ holds the slice v, whose row is the list l. -/
def NumsI (ab ao base : Nat) (v : Value) (l : List Int) (w : World) : Prop :=
  w.cell? ⟨ab, ao, none⟩ = some v ∧ w.frozen? ⟨ab, ao, none⟩ = false ∧ w.ownsRow base 3 1 v l.length (rowOf ncells l) ∧ v.ownBlock ≠ some ab ∧ l.length ≤ 1000000 ∧ base ≤ w.heap.size

def OwnN (v : Value) (w w' : World) : Prop := Fr (fun k => v.ownBlock = some k) w w'

theorem NumsI.cells {ab ao base g n cap : Nat} {l : List Int} {w : World} (h : NumsI ab ao base (.slice (some ⟨g, 0, none⟩) n cap) l w) (hn : n = l.length) (k : Nat) (hk : k < l.length) :
    w.cell? ⟨g, k, none⟩ = some (.int .i64 (HL.el l k)) := by
  subst hn
  have ho := h.2.2.1
  have r0 := rowOf_at ncells ncells_length l k 0 hk (by omega)
  rw [Nat.mul_one, Nat.add_zero] at r0
  rw [ho.cellAt k (by omega)]
  exact r0

theorem NumsI.keep {ab ao base : Nat} {v : Value} {l : List Int} {w w' : World} (h : NumsI ab ao base v l w) {S : Nat → Prop} (hf : Fr S w w') (h1 : ¬ S ab) (h2 : ∀ g, v.ownBlock = some g → ¬ S g) : NumsI ab ao base v l w' := by
  obtain ⟨a, b, c, d, e, f⟩ := h
  have hlt := cell_lt a
  exact ⟨(hf.cell hlt h1).trans a, (hf.frozen hlt h1).trans b, hf.owns c h2, d, e, Nat.le_trans f hf.size⟩

theorem NumsI.set {ab ao base g n cap : Nat} {l : List Int} {w : World} (h : NumsI ab ao base (.slice (some ⟨g, 0, none⟩) n cap) l w) (k : Nat) (hk : k < l.length) (x : Int) :
    NumsI ab ao base (.slice (some ⟨g, 0, none⟩) n cap) (l.set k x) (w.setCell ⟨g, k, none⟩ (.int .i64 x)) ∧ OwnN (.slice (some ⟨g, 0, none⟩) n cap) w (w.setCell ⟨g, k, none⟩ (.int .i64 x)) := by
  obtain ⟨a, b, c, d, e, f⟩ := h
  have hn : n = l.length := by
    obtain ⟨p, cp, hv⟩ := owns_slice c
    injection hv
  subst hn
  have s1 := c.stored k (.int .i64 x)
  have hF : OwnN (.slice (some ⟨g, 0, none⟩) l.length cap) w (w.setCell ⟨g, k, none⟩ (.int .i64 x)) :=
    (Fr.refl (fun i => Value.ownBlock (.slice (some ⟨g, 0, none⟩) l.length cap) = some i) w).setCell (p := ⟨g, k, none⟩) (fun _ => rfl) _
  have hlt := cell_lt a
  have hns : ¬ (Value.ownBlock (.slice (some ⟨g, 0, none⟩) l.length cap) = some ab) := d
  refine ⟨⟨(hF.cell hlt hns).trans a, (hF.frozen hlt hns).trans b, ?_, d, by rw [List.length_set]; exact e, Nat.le_trans f hF.size⟩, hF⟩
  rw [List.length_set, ← rowOf_set1 ncells ncells_length l k x _ rfl hk]
  exact s1.1

theorem NumsI.drew {ab ao base : Nat} {v : Value} {l : List Int} {w : World} (h : NumsI ab ao base v l w) : NumsI ab ao base v l w.drew := h
theorem NumsI.drewN {ab ao base : Nat} {v : Value} {l : List Int} {w : World} (h : NumsI ab ao base v l w) (m : Nat) : NumsI ab ao base v l (w.drewN m) := h

theorem nums_rep (ab ao base : Nat) (v : Value) : HeapRep Tryz.prog (.iface 251 (.pointer (some ⟨ab, ao, none⟩))) nlt (NumsI ab ao base v) (OwnN v) where
  refl := fun w => Fr.refl _ w
  trans := fun w1 w2 w3 h k => Fr.trans h k (fun i hi _ => hi)
  ord := nlt_ord
  small := fun l w h => h.2.2.2.2.1
  len := fun l w h => by
    obtain ⟨p, c, hv⟩ := owns_slice h.2.2.1
    refine ⟨_, _, inv_nums_len ⟨ab, ao, none⟩ v w h.1, ?_⟩
    rw [hv]
    refine (len_nums p l.length c w).mono ?_
    rintro e w' ⟨rfl, rfl⟩
    exact ⟨_, rfl, rfl, by rw [← hv]; exact h, Fr.refl _ _⟩
  less := fun l w h i j hi0 hi hj0 hj => by
    obtain ⟨g, cap, hv, _, hg, _⟩ := owns_len h.2.2.1 (by omega)
    have hx := (hv ▸ h).cells rfl i.toNat (by omega)
    have hy := (hv ▸ h).cells rfl j.toNat (by omega)
    refine ⟨_, _, inv_nums_two "Less" _ i j ⟨ab, ao, none⟩ v w (.inl ⟨rfl, rfl⟩) h.1, ?_⟩
    rw [hv]
    obtain ⟨i, rfl⟩ := Int.eq_ofNat_of_zero_le hi0
    obtain ⟨j, rfl⟩ := Int.eq_ofNat_of_zero_le hj0
    rw [Int.toNat_natCast] at hx hy
    refine (less_nums g l.length cap i j (HL.el l i) (HL.el l j) w (by omega) (by omega) hx hy).mono ?_
    rintro e w' ⟨rfl, m, rfl⟩
    refine ⟨_, rfl, rfl, ?_, (Fr.refl _ w).drewN m⟩
    rw [← hv]
    exact h
  swap := fun l w h i j hi0 hi hj0 hj => by
    obtain ⟨g, cap, hv, _, hg, _⟩ := owns_len h.2.2.1 (by omega)
    have h' := hv ▸ h
    have hx := h'.cells rfl i.toNat (by omega)
    have hy := h'.cells rfl j.toNat (by omega)
    refine ⟨_, _, inv_nums_two "Swap" _ i j ⟨ab, ao, none⟩ v w (.inr ⟨rfl, rfl⟩) h.1, ?_⟩
    rw [hv]
    obtain ⟨i, rfl⟩ := Int.eq_ofNat_of_zero_le hi0
    obtain ⟨j, rfl⟩ := Int.eq_ofNat_of_zero_le hj0
    rw [Int.toNat_natCast] at hx hy
    have s1 := h'.set i (by omega) (HL.el l j)
    have s2 := s1.1.set j (by rw [List.length_set]; omega) (HL.el l i)
    have hfz : ∀ k, w.frozen? ⟨g, k, none⟩ = false := fun k => h'.2.2.1.frozenAt k
    have hfin : NumsI ab ao base (.slice (some ⟨g, 0, none⟩) l.length cap) (HL.swp l i j) _ ∧ OwnN (.slice (some ⟨g, 0, none⟩) l.length cap) w _ := ⟨s2.1, Fr.trans s1.2 s2.2 (fun k hk _ => hk)⟩
    by_cases hij : i = j
    · subst hij
      refine (swap_nums_same g l.length cap i (HL.el l i) w (by omega) hx hfz).mono ?_
      rintro e w' ⟨rfl, rfl⟩
      rw [Int.toNat_natCast]
      exact ⟨_, rfl, hfin.1.drew, hfin.2.drew⟩
    · refine (swap_nums g l.length cap i j (HL.el l i) (HL.el l j) w (by omega) (by omega) hij hx hy hfz).mono ?_
      rintro e w' ⟨rfl, rfl⟩
      rw [Int.toNat_natCast, Int.toNat_natCast]
      exact ⟨_, rfl, hfin.1.drew, hfin.2.drew⟩

set_option maxHeartbeats 400000 in
/-- heap.Push on numbers. -/
theorem heap_push_nums (ab ao base : Nat) (v : Value) (l : List Int) (x : Int) (w : World) (h : NumsI ab ao base v l w) (hh : HL.IsHeap nlt l) (hn : l.length < 1000000) :
    Calls Tryz.prog 186 #[.iface 251 (.pointer (some ⟨ab, ao, none⟩)), .iface 3 (.int .i64 x)] w fun e w' => e = .returned (.tuple #[]) ∧
      ∃ v' l', NumsI ab ao base v' l' w' ∧ HL.IsHeap nlt l' ∧ l'.Perm (l ++ [x]) ∧ Fr (fun k => k = ab ∨ v.ownBlock = some k) w w' ∧ (∀ g, v'.ownBlock = some g → Lies v g w.heap.size) ∧ Others ab ao w w' := by
  refine heap_push (lt := nlt) ?_
  refine ⟨_, _, inv_nums_push _ _ w, (push_nums ab ao v base l.length (rowOf ncells l) x w h.1 h.2.1 h.2.2.1 h.2.2.2.1 (by omega) h.2.2.2.2.2).mono ?_⟩
  rintro e w1 ⟨rfl, g, cap, hc, hf, ho, hfr, hl, hg, hoth⟩
  refine ⟨_, rfl, NumsI ab ao base (.slice (some ⟨g, 0, none⟩) (l.length + 1) cap), OwnN (.slice (some ⟨g, 0, none⟩) (l.length + 1) cap), l, x, nums_rep ab ao base _, ⟨hc, hf, ?_, fun e => hg (by simpa [Value.ownBlock] using e), by simp; omega, Nat.le_trans h.2.2.2.2.2 hfr.size⟩, hh, ?_⟩
  · rw [rowOf_append, rowOf_one, List.length_append]; exact ho
  · intro l' w2 hI hF hp hh'
    refine ⟨_, l', hI, hh', hp, Fr.trans hfr hF (fun i hi hlt => ?_), fun g' hg' => ?_, hoth.trans (Others.of_block (hF.block ab (cell_lt hc) (fun e => hg (by simpa [Value.ownBlock] using e))))⟩
    · have : g = i := by simpa [Value.ownBlock] using hi
      subst this
      rcases hl with hl | hl
      · exact .inr hl
      · omega
    · have : g = g' := by simpa [Value.ownBlock] using hg'
      subst this
      exact hl

/-- The method Pop on numbers, as heap.Pop and heap.Remove use it. -/
theorem invPop_nums (ab ao base : Nat) (v : Value) (l0 l' : List Int) (x : Int) (w w1 : World) (h0 : NumsI ab ao base v l0 w) (hI : NumsI ab ao base v (l' ++ [x]) w1) (hF : OwnN v w w1) (hp : (x :: l').Perm l0) (hh' : HL.IsHeap nlt l') :
    InvC Tryz.prog (.iface 251 (.pointer (some ⟨ab, ao, none⟩))) "Pop" #[] w1 fun u w' => ∃ v' l', u = .iface 3 (.int .i64 x) ∧ NumsI ab ao base v' l' w' ∧ HL.IsHeap nlt l' ∧ (x :: l').Perm l0 ∧ Fr (fun k => k = ab ∨ v.ownBlock = some k) w w' ∧ v'.ownBlock = v.ownBlock ∧ Others ab ao w w' := by
  obtain ⟨g, cap, hv, _, hg, hcap⟩ := owns_len hI.2.2.1 (by simp)
  have hI' := hv ▸ hI
  have hx := hI'.cells rfl l'.length (by simp)
  rw [show HL.el (l' ++ [x]) l'.length = x from HL.el_append_right l' _] at hx
  have hlen : (l' ++ [x]).length = l'.length + 1 := by simp
  rw [hlen] at hI' hcap
  refine ⟨_, _, inv_nums_pop _ w1, (pop_nums ab ao g l'.length cap x w1 hI'.1 hI'.2.1 hx hcap (by have := hI.2.2.2.2.1; simp at this; omega)).mono ?_⟩
  rintro e w2 ⟨rfl, rfl⟩
  have hab : g ≠ ab := fun e => hI'.2.2.2.1 (by rw [e]; rfl)
  have hob : v.ownBlock = some g := by rw [hv]; rfl
  have hF2 : Fr (fun k => k = ab) w1 (w1.setCell ⟨ab, ao, none⟩ (.slice (some ⟨g, 0, none⟩) l'.length cap)) := (Fr.refl (fun k => k = ab) w1).setCell (p := ⟨ab, ao, none⟩) (fun _ => rfl) _
  refine ⟨_, rfl, .slice (some ⟨g, 0, none⟩) l'.length cap, l', rfl, ⟨cell_set_same _ _ _ _ hI'.1, by rw [frozen_set]; exact hI'.2.1, ?_, fun e => hab (by simpa [Value.ownBlock] using e), by have := hI.2.2.2.2.1; simp at this; omega, Nat.le_trans hI.2.2.2.2.2 hF2.size⟩, hh', hp, ?_, hob.symm, ?_⟩
  · have ho := hF2.owns hI'.2.2.1 (fun g' hg' => by have : g = g' := by simpa [Value.ownBlock] using hg'
                                                    subst this; exact hab)
    rw [rowOf_append, hlen] at ho
    exact ownsRow_pop (rowOf_length ncells ncells_length l') ho
  · exact Fr.trans (Fr.mono hF (fun i _ hi => .inr hi)) hF2 (fun i hi _ => .inl hi)
  · have hlt := cell_lt h0.1
    exact (Others.of_block (hF.block ab hlt (fun e => hab (by rw [hob] at e; simpa using e)))).trans (Others.set ab ao w1 _)

/-- heap.Pop on numbers. -/
theorem heap_pop_nums (ab ao base : Nat) (v : Value) (l : List Int) (w : World) (h : NumsI ab ao base v l w) (hh : HL.IsHeap nlt l) (hn : 0 < l.length) :
    Calls Tryz.prog 177 #[.iface 251 (.pointer (some ⟨ab, ao, none⟩))] w fun e w' => ∃ u, e = .returned u ∧
      ∃ v' l', u = .iface 3 (.int .i64 (HL.el l 0)) ∧ NumsI ab ao base v' l' w' ∧ HL.IsHeap nlt l' ∧ (HL.el l 0 :: l').Perm l ∧ Fr (fun k => k = ab ∨ v.ownBlock = some k) w w' ∧ v'.ownBlock = v.ownBlock ∧ Others ab ao w w' :=
  heap_pop (nums_rep ab ao base v) l h hn hh fun l' w1 hI hF hp hh' => invPop_nums ab ao base v l l' _ w w1 h hI hF hp hh'


end Go.Proofs.YtlocadmiomglaaaGreatDoor

/- pile's Pile: the contracts of slices.Clone at ints, New, Len, Put, Take and First. -/
namespace Go.Proofs.YtlocadmiomglaaaGreatDoor
open Go.RowKit

set_option maxHeartbeats 400000 in
set_option maxRecDepth 100000 in
theorem clone_ints (p : Option Addr) (n c : Nat) (zs : List Int) (w : World) (h : RdI w w.heap.size p n zs) (hn : n ≤ 1000000) :
    Calls Tryz.prog 172 #[.slice p n c] w fun e w' => ∃ v, e = .returned v ∧ w'.ownsRow w.heap.size 3 1 v n (rowOf ncells zs) ∧ Below w.heap.size w w' := by
  obtain ⟨i0, hi0, hz0, hz1, hz2⟩ := info_parts info_int
  have heq : ∀ W, (binOp .eql 27 (.slice p n c) (.slice none 0 0)).run Tryz.prog W = .ok (.bool p.isNone) W := fun W => Lib.run_eql_slice_nil W 27 3 p n c 0 0 Tryz.underlying27
  have hz := h.1
  cases p with
  | none =>
    have h0 : n = 0 := by
      rcases Nat.eq_zero_or_pos n with h0 | h0
      · exact h0
      · obtain ⟨b, o, e, _⟩ := h.2 h0; cases e
    subst h0
    have : zs = [] := List.eq_nil_of_length_eq_zero hz
    subst this
    clear h hz
    go_enter Tryz.func172, Tryz.ntmps172
    go_wp2
    go_ret
    exact ⟨_, rfl, World.ownsRow_nil _ _ _ _, Below.refl _ _⟩
  | some ad =>
    have hnews : ∀ W : World, Below w.heap.size w W → ∀ j u, (rowOf ncells zs)[j]? = some u → W.cell? (ad.add j) = some u := by
      intro W hb j u hu
      obtain ⟨hj, rfl⟩ := rowOf_ncells_get hu
      obtain ⟨b, o, e, hlt, hc⟩ := h.2 (by omega)
      injection e with e
      subst e
      rw [add_at, ← hc j (by omega)]
      exact hb.cell hlt
    have HNE := Lib.hid hnews
    have hlen : (rowOf ncells zs).length = n := by rw [rowOf_length ncells ncells_length, hz, Nat.mul_one]
    have HL1 := Lib.hid hlen
    clear h hz hnews hlen
    go_enter Tryz.func172, Tryz.ntmps172
    go_wp2_with (at_builtin; refine wpList_append_own _ rfl _ _ 27 rfl w.heap.size 3 i0 _ 1 8 Tryz.underlying27 hi0 hz0 hz1 hz2 rfl (by omega) (.slice (some ⟨w.heap.size, 0, none⟩) 0 0) 0 [] rfl ?c0 ad n c (rowOf ncells zs) rfl ?c1 ?c2 ?c3 ?c4 ?c5 ?c6 ?_; (case c0 => exact World.ownsRow_made w #[] 0 (Nat.le_refl _) (by simp [maxLen]) (by simp)); (case c1 => rw [HL1.out, Nat.mul_one]); (case c2 => exact HNE.out _ ((Below.refl _ _).alloc (Nat.le_refl _) _)); (case c3 => exact rowOf_ncells_one); (case c4 => unfold maxLen; omega); (case c5 => omega); (case c6 => simp); intro v w1 hown hgr _)
    go_ret
    rw [Nat.zero_add, List.nil_append] at hown
    refine ⟨_, rfl, hown, ((Below.refl _ _).alloc (Nat.le_refl _) _).grown hgr (by simp) (fun k hk => ?_)⟩
    have : w.heap.size = k := by simpa [Value.ownBlock] using hk
    omega

/-- Block pb is a Pile that has l, a heap. -/
def PileI (pb base : Nat) (v : Value) (l : List Int) (w : World) : Prop := NumsI pb 0 base v l w ∧ HL.IsHeap nlt l

theorem PileI.keep {pb base : Nat} {v : Value} {l : List Int} {w w' : World} (h : PileI pb base v l w) {S : Nat → Prop} (hf : Fr S w w') (hS : ∀ k, (k = pb ∨ v.ownBlock = some k) → ¬ S k) : PileI pb base v l w' :=
  ⟨h.1.keep hf (hS pb (.inl rfl)) (fun g hg => hS g (.inr hg)), h.2⟩

set_option maxHeartbeats 400000 in
set_option maxRecDepth 100000 in
theorem pile_new (p : Option Addr) (n c : Nat) (zs : List Int) (w : World) (h : RdI w w.heap.size p n zs) (hn : n ≤ 1000000) :
    Calls Tryz.prog 126 #[.slice p n c] w fun e w' => ∃ pb v l, e = .returned (.pointer (some ⟨pb, 0, none⟩)) ∧ w.heap.size ≤ pb ∧ PileI pb w.heap.size v l w' ∧ l.Perm zs ∧ Below w.heap.size w w' := by
  have HC := Lib.hid (clone_ints p n c zs w h hn)
  have hz := h.1
  have HZ := Lib.hid hz
  clear h hz
  go_enter Tryz.func126, Tryz.ntmps126
  go_wp2_with fail
  refine HC.out.mono ?_
  rintro e w1 ⟨v, rfl, ho, hb⟩
  obtain ⟨q, d, rfl⟩ := owns_slice ho
  have hz := hb.size
  have hob := fun k hk => (ho.lt k hk)
  have HI : Hid (NumsI w1.heap.size 0 w.heap.size (.slice q n d) zs (w1.alloc (.cells #[.slice q n d] 169))) :=
    ⟨by go_simp, by go_simp, by rw [HZ.out]; exact ho.alloc _, fun e => by have := (hob _ e).2; omega, by rw [HZ.out]; exact hn, by simp; omega⟩
  have HO := Lib.hid ho
  clear ho hob
  go_wp2_with fail
  refine (heap_init (nums_rep _ _ _ _) zs HI.out).mono ?_
  rintro e w2 ⟨rfl, l, hI, hF, hp, hh⟩
  have HI2 := Lib.hid (show PileI w1.heap.size w.heap.size (.slice q n d) l w2 from ⟨hI, hh⟩)
  have HF := Lib.hid hF
  clear hI hF
  go_wp2
  go_ret
  refine ⟨_, _, l, rfl, hz, HI2.out, hp, Below.trans (hb.alloc hz _) (HF.out.below (by simp; omega) (fun i hi => (HO.out.lt i hi).1))⟩

set_option maxHeartbeats 400000 in
set_option maxRecDepth 100000 in
theorem pile_len (pb base : Nat) (v : Value) (l : List Int) (w : World) (h : PileI pb base v l w) :
    Calls Tryz.prog 176 #[.pointer (some ⟨pb, 0, none⟩)] w fun e w' => e = .returned (.int .i64 l.length) ∧ w = w' := by
  obtain ⟨p, c, hv⟩ := owns_slice h.1.2.2.1
  have hc := h.1.1
  rw [hv] at hc
  clear h hv
  generalize l.length = n at *
  go_enter Tryz.func176, Tryz.ntmps176
  go_wp2
  go_ret
  exact ⟨rfl, rfl⟩

set_option maxHeartbeats 400000 in
set_option maxRecDepth 100000 in
theorem pile_first_none (pb base : Nat) (v : Value) (w : World) (h : PileI pb base v [] w) :
    Calls Tryz.prog 134 #[.pointer (some ⟨pb, 0, none⟩)] w fun e w' => e = .returned (.tuple #[.int .i64 0, .bool false]) ∧ w = w' := by
  have HH := Lib.hid h; clear h
  go_enter Tryz.func134, Tryz.ntmps134
  go_wp2_with fail
  refine (pile_len pb base v [] _ HH.out).mono ?_
  rintro e w' ⟨rfl, rfl⟩
  go_wp2
  go_ret2
  exact ⟨rfl, rfl⟩

set_option maxHeartbeats 400000 in
set_option maxRecDepth 100000 in
theorem pile_first_some (pb base : Nat) (v : Value) (l : List Int) (w : World) (h : PileI pb base v l w) (hn : 0 < l.length) :
    Calls Tryz.prog 134 #[.pointer (some ⟨pb, 0, none⟩)] w fun e w' => e = .returned (.tuple #[.int .i64 (HL.el l 0), .bool true]) ∧ w = w' := by
  obtain ⟨g, cap, hv, _, hg, _⟩ := owns_len h.1.2.2.1 hn
  have h' := hv ▸ h
  have hx := h'.1.cells rfl 0 hn
  have hc := h'.1.1
  have HL0 := Lib.hid (pile_len pb base v l w h)
  have hne : ((l.length : Int) == 0) = false := by rw [beq_eq_false_iff_ne]; omega
  clear h h' hv
  generalize HL.el l 0 = x at *
  generalize l.length = n at *
  go_enter Tryz.func134, Tryz.ntmps134
  go_wp2_with fail
  refine HL0.out.mono ?_
  rintro e w' ⟨rfl, rfl⟩
  go_wp2
  go_ret2
  exact ⟨rfl, rfl⟩

set_option maxHeartbeats 400000 in
set_option maxRecDepth 100000 in
theorem pile_take_none (pb base : Nat) (v : Value) (w : World) (h : PileI pb base v [] w) :
    Calls Tryz.prog 136 #[.pointer (some ⟨pb, 0, none⟩)] w fun e w' => e = .returned (.tuple #[.int .i64 0, .bool false]) ∧ w = w' := by
  have HH := Lib.hid h; clear h
  go_enter Tryz.func136, Tryz.ntmps136
  go_wp2_with fail
  refine (pile_len pb base v [] _ HH.out).mono ?_
  rintro e w' ⟨rfl, rfl⟩
  go_wp2
  go_ret2
  exact ⟨rfl, rfl⟩

set_option maxHeartbeats 400000 in
set_option maxRecDepth 100000 in
theorem pile_take_some (pb base : Nat) (v : Value) (l : List Int) (w : World) (h : PileI pb base v l w) (hn : 0 < l.length) :
    Calls Tryz.prog 136 #[.pointer (some ⟨pb, 0, none⟩)] w fun e w' => e = .returned (.tuple #[.int .i64 (HL.el l 0), .bool true]) ∧
      ∃ v' l', PileI pb base v' l' w' ∧ (HL.el l 0 :: l').Perm l ∧ Fr (fun k => k = pb ∨ v.ownBlock = some k) w w' ∧ v'.ownBlock = v.ownBlock := by
  have HL0 := Lib.hid (pile_len pb base v l w h)
  have HP := Lib.hid (heap_pop_nums pb 0 base v l w h.1 h.2 hn)
  have hne : ((l.length : Int) == 0) = false := by rw [beq_eq_false_iff_ne]; omega
  have hta := ta_int
  clear h
  generalize HL.el l 0 = x at *
  go_enter Tryz.func136, Tryz.ntmps136
  go_wp2_with fail
  refine HL0.out.mono ?_
  rintro e w' ⟨rfl, rfl⟩
  go_wp2_with fail
  refine HP.out.mono ?_
  rintro e w2 ⟨u, rfl, v', l', rfl, hI, hh, hp, hfr, hv', hoth⟩
  have HI := Lib.hid hI
  have HV := Lib.hid hv'
  have HF := Lib.hid hfr
  clear hI hv' hfr hoth
  go_wp2
  go_ret2
  exact ⟨rfl, v', l', ⟨HI.out, hh⟩, hp, HF.out, HV.out⟩
end Go.Proofs.YtlocadmiomglaaaGreatDoor

/- pile's Pile: the contract of Put. -/
namespace Go.Proofs.YtlocadmiomglaaaGreatDoor
open Go.RowKit

def pileF (pb : Nat) (v : Value) : Nat → Prop := fun k => k = pb ∨ v.ownBlock = some k

/-- What holds as Put goes on: k of the numbers are there. -/
def PutRel (pb base : Nat) (v0 : Value) (l0 zs : List Int) (w : World) (k : Nat) (wr : World) : Prop :=
  ∃ v l, PileI pb base v l wr ∧ l.Perm (l0 ++ zs.take k) ∧ Fr (pileF pb v0) w wr ∧ (∀ g, v.ownBlock = some g → Lies v0 g w.heap.size)

theorem PutRel.step {pb base : Nat} {v0 v v' : Value} {l0 zs l l' : List Int} {w wr w2 : World} {k : Nat} (hk : k < zs.length) (hp : l.Perm (l0 ++ zs.take k)) (hF : Fr (pileF pb v0) w wr) (hL : ∀ g, v.ownBlock = some g → Lies v0 g w.heap.size)
    (hI : PileI pb base v' l' w2) (hp' : l'.Perm (l ++ [HL.el zs k])) (hF' : Fr (fun i => i = pb ∨ v.ownBlock = some i) wr w2) (hL' : ∀ g, v'.ownBlock = some g → Lies v g wr.heap.size) : PutRel pb base v0 l0 zs w (k + 1) w2 := by
  refine ⟨v', l', hI, ?_, Fr.trans hF hF' (fun i hi hlt => ?_), fun g hg => ?_⟩
  · have e : zs.take (k + 1) = zs.take k ++ [HL.el zs k] := by
      rw [List.take_succ_eq_append_getElem hk]
      have := HL.el_eq zs k hk
      rw [List.getElem?_eq_getElem hk] at this
      injection this with this
      rw [this]
    rw [e, ← List.append_assoc]
    exact hp'.trans (hp.append_right _)
  · rcases hi with hi | hi
    · exact .inl hi
    · rcases hL i hi with h | h
      · exact .inr h
      · omega
  · rcases hL' g hg with h | h
    · exact hL g h
    · exact .inr (Nat.le_trans hF.size h)

set_option maxHeartbeats 400000 in
set_option maxRecDepth 100000 in
theorem pile_put (pb base : Nat) (v : Value) (l zs : List Int) (p : Option Addr) (n c : Nat) (w : World) (h : PileI pb base v l w) (hz : RdI w w.heap.size p n zs) (hS : ∀ b o, p = some ⟨b, o, none⟩ → 0 < n → ¬ pileF pb v b) (hn : l.length + n < 1000000) :
    Calls Tryz.prog 164 #[.pointer (some ⟨pb, 0, none⟩), .slice p n c] w fun e w' => e = .returned (.tuple #[]) ∧
      ∃ v' l', PileI pb base v' l' w' ∧ l'.Perm (l ++ zs) ∧ Fr (pileF pb v) w w' ∧ (∀ g, v'.ownBlock = some g → Lies v g w.heap.size) := by
  have hzl := hz.1
  have hst : PutRel pb base v l zs w 0 w := ⟨v, l, h, by simp, Fr.refl _ _, fun g hg => .inl hg⟩
  have HST := Lib.hid hst; clear hst h
  have HZ := Lib.hid hz; clear hz
  have HZL := Lib.hid hzl; clear hzl
  have HS := Lib.hid hS; clear hS
  go_enter Tryz.func164, Tryz.ntmps164
  go_wp2
  go_loopw [5, 10] (fun _ iv wr => ∃ k : Nat, k ≤ n ∧ iv = .int .i64 k ∧ PutRel pb base v l zs w k wr) (fun _ iv _ => n - (intOf iv).toNat)
  case atStart => exact ⟨0, Nat.zero_le _, rfl, HST.out⟩
  case round =>
    clear HST
    obtain ⟨k, hk, rfl, v1, l1, hI, hp, hF, hL⟩ := hrel
    have hlen : l1.length ≤ l.length + k := by rw [hp.length_eq, List.length_append, List.length_take]; omega
    have HL1 := Lib.hid hL; clear hL
    by_cases hlt : k < n
    · obtain ⟨b, o, e, hb, hc⟩ := HZ.out.2 (by omega)
      have hcell := (hF.cell (p := ⟨b, o + k, none⟩) hb (HS.out b o e (by omega))).trans (hc k hlt)
      clear hc
      subst e
      have HP := Lib.hid (heap_push_nums pb 0 base v1 l1 (HL.el zs k) wr hI.1 hI.2 (by omega))
      clear hI
      generalize hx : HL.el zs k = x at *
      have HX := Lib.hid hx; clear hx
      go_wp2_with fail
      refine HP.out.mono ?_
      rintro e w2 ⟨rfl, v2, l2, hI2, hh2, hp2, hF2, hL2, _⟩
      have HR : Hid (PutRel pb base v l zs w (k + 1) w2) := PutRel.step (by rw [HZL.out]; exact hlt) hp hF HL1.out ⟨hI2, hh2⟩ (by rw [HX.out]; exact hp2) hF2 hL2
      clear hI2 hh2 hp2 hF2 hL2
      go_wp2
      go_roundw
      case rel => exact ⟨k + 1, by omega, by go_num, HR.out⟩
      case measure => simp [intOf]; omega
    · have : k = n := by omega
      subst this
      go_wp2
      go_end0
      exact ⟨rfl, v1, l1, hI, by rw [List.take_of_length_le (by rw [HZL.out]; omega)] at hp; exact hp, hF, HL1.out⟩
end Go.Proofs.YtlocadmiomglaaaGreatDoor

/- Plain facts on sorted lists of numbers, each once: no program in sight. -/
namespace Go.Proofs.YtlocadmiomglaaaGreatDoor
namespace CL

/-- Sorted, each once. -/
def Up (l : List Int) : Prop := l.Pairwise (· < ·)

theorem up_nodup {l : List Int} (h : Up l) : l.Nodup := h.imp (fun h => by omega)

theorem up_ext : ∀ {a b : List Int}, Up a → Up b → (∀ x, x ∈ a ↔ x ∈ b) → a = b
  | [], [], _, _, _ => rfl
  | [], y :: b, _, _, h => by have := (h y).2 (by simp); simp at this
  | x :: a, [], _, _, h => by have := (h x).1 (by simp); simp at this
  | x :: a, y :: b, ha, hb, h => by
    have ha' := List.pairwise_cons.1 ha
    have hb' := List.pairwise_cons.1 hb
    have hxy : x = y := by
      rcases List.mem_cons.1 ((h x).1 (by simp)) with e | e
      · exact e
      · rcases List.mem_cons.1 ((h y).2 (by simp)) with e' | e'
        · exact e'.symm
        · have h1 := hb'.1 x e
          have h2 := ha'.1 y e'
          omega
    subst hxy
    congr 1
    refine up_ext ha'.2 hb'.2 (fun z => ?_)
    have hz := h z
    constructor
    · intro hm
      have h1 := ha'.1 z hm
      rcases List.mem_cons.1 (hz.1 (by simp [hm])) with e | e
      · omega
      · exact e
    · intro hm
      have h1 := hb'.1 z hm
      rcases List.mem_cons.1 (hz.2 (by simp [hm])) with e | e
      · omega
      · exact e

/-- What slices.Compact makes of a sorted row. -/
theorem compact_up (d : Array Int) (hs : ∀ i j, i ≤ j → j < d.size → d[i]! ≤ d[j]!) : ∀ m, m ≤ d.size →
    Up (Lib.compactUpTo d m) ∧ (∀ x, x ∈ Lib.compactUpTo d m ↔ ∃ j, j < m ∧ d[j]! = x) ∧ (Lib.compactUpTo d m).length ≤ m
  | 0, _ => ⟨by simp [Lib.compactUpTo, Up], by simp [Lib.compactUpTo], by simp [Lib.compactUpTo]⟩
  | m + 1, hm => by
    obtain ⟨h1, h2, h3⟩ := compact_up d hs m (by omega)
    rw [Lib.compactUpTo_succ]
    by_cases hk : Lib.keeps d m = true
    · rw [if_pos hk]
      refine ⟨?_, ?_, by simp; omega⟩
      · unfold Up
        rw [List.pairwise_append]
        refine ⟨h1, by simp, ?_⟩
        intro a ha b hb
        have hb' : b = d[m]! := by simpa using hb
        subst hb'
        obtain ⟨j, hj, rfl⟩ := (h2 a).1 ha
        have hk' : m = 0 ∨ d[m]! ≠ d[m - 1]! := by simpa [Lib.keeps] using hk
        rcases hk' with h0 | hne
        · omega
        · have e1 := hs j (m - 1) (by omega) (by omega)
          have e2 := hs (m - 1) m (by omega) (by omega)
          omega
      · intro x
        rw [List.mem_append, h2]
        constructor
        · rintro (⟨j, hj, e⟩ | e)
          · exact ⟨j, by omega, e⟩
          · exact ⟨m, by omega, (List.mem_singleton.1 e).symm⟩
        · rintro ⟨j, hj, e⟩
          rcases Nat.lt_or_ge j m with g | g
          · exact .inl ⟨j, g, e⟩
          · obtain rfl : j = m := by omega
            exact .inr (by simp [e])
    · rw [if_neg hk, List.append_nil]
      refine ⟨h1, ?_, by omega⟩
      intro x
      rw [h2]
      have hk' : ¬ (m = 0 ∨ d[m]! ≠ d[m - 1]!) := by simpa [Lib.keeps] using hk
      have hm0 : m ≠ 0 := fun e => hk' (.inl e)
      have hme : d[m]! = d[m - 1]! := Classical.byContradiction fun e => hk' (.inr e)
      constructor
      · rintro ⟨j, hj, e⟩
        exact ⟨j, by omega, e⟩
      · rintro ⟨j, hj, e⟩
        rcases Nat.lt_or_ge j m with g | g
        · exact ⟨j, g, e⟩
        · obtain rfl : j = m := by omega
          exact ⟨j - 1, by omega, by rw [← hme, e]⟩

/-- The sort of numbers. -/
def srt (zs : List Int) : List Int := zs.mergeSort fun x y => decide (x ≤ y)

theorem srt_perm (zs : List Int) : (srt zs).Perm zs := List.mergeSort_perm _ _
theorem srt_length (zs : List Int) : (srt zs).length = zs.length := (srt_perm zs).length_eq
theorem srt_mem {zs : List Int} {x : Int} : x ∈ srt zs ↔ x ∈ zs := (srt_perm zs).mem_iff
theorem srt_sorted (zs : List Int) : (srt zs).Pairwise (· ≤ ·) := by
  have := List.pairwise_mergeSort (le := fun x y : Int => decide (x ≤ y)) (by intro a b c; simp; omega) (by intro a b; simp; omega) zs
  exact this.imp (fun h => by simpa using h)

theorem srt_unique {a b : List Int} (hp : a.Perm b) (ha : a.Pairwise (· ≤ ·)) (hb : b.Pairwise (· ≤ ·)) : a = b :=
  hp.eq_of_pairwise (fun x y _ _ h1 h2 => by omega) ha hb

theorem srt_of_perm {a b : List Int} (hp : a.Perm b) : srt a = srt b :=
  srt_unique ((srt_perm a).trans (hp.trans (srt_perm b).symm)) (srt_sorted a) (srt_sorted b)

/-- Each number once, rising. -/
def nrm (zs : List Int) : List Int := Lib.compact (srt zs)

theorem nrm_all (zs : List Int) : Up (nrm zs) ∧ (∀ x, x ∈ nrm zs ↔ x ∈ zs) ∧ (nrm zs).length ≤ zs.length := by
  have hs : ∀ i j, i ≤ j → j < (srt zs).toArray.size → (srt zs).toArray[i]! ≤ (srt zs).toArray[j]! := by
    intro i j hij hj
    have hj' : j < (srt zs).length := by simpa using hj
    have e1 : (srt zs).toArray[i]! = (srt zs)[i]'(by omega) := by rw [getElem!_pos (srt zs).toArray i (by simp; omega)]; simp
    have e2 : (srt zs).toArray[j]! = (srt zs)[j]'hj' := by rw [getElem!_pos (srt zs).toArray j hj]; simp
    rw [e1, e2]
    rcases Nat.lt_or_ge i j with g | g
    · exact List.pairwise_iff_getElem.1 (srt_sorted zs) i j (by omega) hj' g
    · obtain rfl : i = j := by omega
      exact Int.le_refl _
  obtain ⟨h1, h2, h3⟩ := compact_up (srt zs).toArray hs (srt zs).length (by simp)
  refine ⟨h1, fun x => ?_, by have := srt_length zs; unfold nrm Lib.compact; omega⟩
  unfold nrm Lib.compact
  rw [h2, ← srt_mem (zs := zs), List.mem_iff_getElem]
  constructor
  · rintro ⟨j, hj, e⟩
    refine ⟨j, hj, ?_⟩
    rw [getElem!_pos (srt zs).toArray j (by simpa using hj)] at e
    simpa using e
  · rintro ⟨j, hj, e⟩
    refine ⟨j, hj, ?_⟩
    rw [getElem!_pos (srt zs).toArray j (by simpa using hj)]
    simpa using e

theorem nrm_up (zs : List Int) : Up (nrm zs) := (nrm_all zs).1
theorem nrm_mem {zs : List Int} {x : Int} : x ∈ nrm zs ↔ x ∈ zs := (nrm_all zs).2.1 x
theorem nrm_length (zs : List Int) : (nrm zs).length ≤ zs.length := (nrm_all zs).2.2
theorem nrm_of_up {zs : List Int} (h : Up zs) : nrm zs = zs := up_ext (nrm_up zs) h (fun _ => nrm_mem)
theorem nrm_ext {a b : List Int} (h : ∀ x, x ∈ a ↔ x ∈ b) : nrm a = nrm b := up_ext (nrm_up a) (nrm_up b) (fun x => by rw [nrm_mem, nrm_mem, h])
theorem nrm_pos {zs : List Int} (h : 0 < zs.length) : 0 < (nrm zs).length := by
  obtain ⟨x, hx⟩ := List.exists_mem_of_length_pos h
  exact List.length_pos_of_mem (nrm_mem.2 hx)

/-- How many are enough. -/
def quo (n : Nat) : Nat := if n < 1 then 0 else n / 2 + 1
/-- How many of the one list are in the other. -/
def cnt (a v : List Int) : Nat := (a.filter (fun x => decide (x ∈ v))).length
def won (m v : List Int) : Bool := decide (0 < cnt (nrm m) v) && decide (quo (nrm m).length ≤ cnt (nrm m) v)

theorem cnt_le (a v : List Int) : cnt a v ≤ a.length := List.length_filter_le _ _
theorem cnt_mono {a v v' : List Int} (h : ∀ x, x ∈ v → x ∈ v') : cnt a v ≤ cnt a v' := by
  unfold cnt
  induction a with
  | nil => simp
  | cons x a ih =>
    by_cases h1 : x ∈ v
    · have := h x h1
      simp [h1, this]; omega
    · by_cases h2 : x ∈ v'
      · simp [h1, h2]; omega
      · simp [h1, h2]; omega
theorem cnt_self (a : List Int) : cnt a a = a.length := by
  unfold cnt
  rw [List.filter_eq_self.2 (fun x hx => by simpa using hx)]
theorem cnt_nil (a : List Int) : cnt a [] = 0 := by simp [cnt]
theorem cnt_two {a u v : List Int} (h : ∀ x, x ∈ a → x ∈ u → x ∈ v → False) : cnt a u + cnt a v ≤ a.length := by
  unfold cnt
  induction a with
  | nil => simp
  | cons x a ih =>
    have ih' := ih (fun y hy => h y (by simp [hy]))
    have hx := h x (by simp)
    by_cases h1 : x ∈ u
    · have h2 : x ∉ v := fun e => hx h1 e
      simp [h1, h2]; omega
    · by_cases h2 : x ∈ v
      · simp [h1, h2]; omega
      · simp [h1, h2]; omega
end CL
end Go.Proofs.YtlocadmiomglaaaGreatDoor

/- slices.Values at pile's numbers, slices.AppendSeq and slices.Collect at ints: what a pile has, collected into a new slice. -/
namespace Go.Proofs.YtlocadmiomglaaaGreatDoor
open Go.RowKit Go.Shelf
attribute [local go_sem] Oper.semAt_some

/-- What has come when k rounds are over. -/
def upto (f : Nat → Int) (k : Nat) : List Int := (List.range k).map f
theorem upto_succ (f : Nat → Int) (k : Nat) : upto f (k + 1) = upto f k ++ [f k] := by simp [upto, List.range_succ]
theorem upto_length (f : Nat → Int) (k : Nat) : (upto f k).length = k := by simp [upto]
theorem upto_all (zs : List Int) : upto (fun j => HL.el zs j) zs.length = zs := by
  apply List.ext_getElem
  · simp [upto]
  · intro i h1 h2
    simp [upto, HL.el, h2]
theorem upto_take (zs : List Int) {k : Nat} (hk : k ≤ zs.length) : upto (fun j => HL.el zs j) k = zs.take k := by
  apply List.ext_getElem
  · simp [upto]; omega
  · intro i h1 h2
    have : i < zs.length := by simp [upto] at h1; omega
    simp [upto, HL.el, this]

set_option maxRecDepth 100000 in
set_option maxHeartbeats 2000000 in
/-- The closure of slices.Values: it reads the slice's cells when a round has run; each round keeps what lay below n0. -/
theorem values1_in (n : Nat) (hn : 1 ≤ n) (l Bs n0 len cap : Nat) (p : Option Addr) (zs : List Int) (hbig : len ≤ 1000000) (J Jx : List Int → World → Prop)
    (hY : ∀ pre x W, J pre W → pre.length < len → YieldAt Fence.wide (n - 1) Tryz.prog l #[.int .i64 x] W fun e W' =>
      (e = .returned (.bool true) ∧ J (pre ++ [x]) W' ∧ Below n0 W W') ∨ (e = .returned (.bool false) ∧ Jx (pre ++ [x]) W'))
    (W : World) (hBs : W.cell? ⟨Bs, 0, none⟩ = some (.slice p len cap)) (hR : RdI W n0 p len zs) (h0 : J [] W) :
    CallsIn Fence.wide n Tryz.prog 192 #[.func (.yield l) #[] #[], .pointer (some ⟨Bs, 0, none⟩)] W fun e W' => (∃ v, e = .returned v) ∧
      ((∃ ys, ys = zs ∧ J ys W') ∨ (∃ pre, pre <+: zs ∧ Jx pre W')) := by
  have hz := hR.1
  have HR := Lib.hid hR
  have HZ := Lib.hid hz
  clear hR hz
  refine callsIn_of_wp Tryz.func192 rfl trivial ?_ rfl
  simp only [Tryz.ntmps192, List.size_toArray, List.length_cons, List.length_nil, Nat.reduceAdd, Nat.reduceSub, Array.replicate_succ, Array.replicate_zero, List.push_toArray, List.append_toArray, List.nil_append, List.cons_append]
  gi_wp2
  gi_loopw [7] (fun i wr => ∃ k : Nat, k ≤ len ∧ i = .int .i64 k ∧ J (upto (fun j => HL.el zs j) k) wr ∧ Below n0 W wr)
    (fun i _ => len - (intOf i).toNat)
  case atStart => exact ⟨0, Nat.zero_le _, rfl, h0, Below.refl _ _⟩
  case round =>
    obtain ⟨k, hk, rfl, hJs, hnx⟩ := hrel
    by_cases hlt : k < len
    · obtain ⟨b, o, hp, hb, hc⟩ := HR.out.2 (by omega)
      subst hp
      have hcx := (hnx.cell (p := ⟨b, o + k, none⟩) hb).trans (hc k hlt)
      obtain ⟨fn, tmps, assign, body, hy, hRo⟩ := hY _ (HL.el zs k) wr hJs (by rw [upto_length]; exact hlt)
      gi_wp2
      refine hRo.mono ?_
      rintro e W3 (⟨rfl, hJ3, hk3⟩ | ⟨rfl, hJx3⟩)
      · gi_wp2
        go_roundw
        case rel => exact ⟨k + 1, by omega, by simp, by rw [upto_succ]; exact hJ3, hnx.trans hk3⟩
        case measure => simp [intOf]; omega
      · gi_wp2
        refine bodyPost_ret (results_none rfl _ _ _) rfl ?_
        refine ⟨⟨_, rfl⟩, .inr ⟨_, ?_, hJx3⟩⟩
        rw [← upto_succ, upto_take zs (by have := HZ.out; omega)]
        exact List.take_prefix _ _
    · obtain rfl : k = len := by omega
      gi_wp2
      go_end0
      refine ⟨⟨_, rfl⟩, .inl ⟨_, ?_, hJs⟩⟩
      rw [← HZ.out]
      exact upto_all zs

theorem values_stops (n : Nat) (hn : 1 ≤ n) (Bs n0 len cap : Nat) (p : Option Addr) (zs : List Int) (hbig : len ≤ 1000000) (w : World) (hBs : Bs < w.heap.size) (hn0 : n0 ≤ w.heap.size)
    (hc : w.cell? ⟨Bs, 0, none⟩ = some (.slice p len cap)) (hR : RdI w n0 p len zs) :
    SeqStopsK Fence.wide n Tryz.prog 192 #[.pointer (some ⟨Bs, 0, none⟩)] (fun x : Int => #[Value.int .i64 x]) (Below n0) (fun ys => ys = zs) (fun pre => pre <+: zs) len w :=
  fun l J Jx W hW _ _ hY h0 =>
    values1_in n hn l Bs n0 len cap p zs hbig J Jx hY W ((hW.cell (p := ⟨Bs, 0, none⟩) hBs).trans hc) (hR.below (hW.mono hn0)) h0

set_option maxRecDepth 100000 in
theorem values_call (p : Option Addr) (len cap : Nat) (w : World) :
    Calls Tryz.prog 169 #[.slice p len cap] w fun e w' => e = .returned (.func (.func 192) #[] #[.pointer (some ⟨w.heap.size, 0, none⟩)]) ∧ w' = w.alloc (.cells #[.slice p len cap] 167) := by
  go_enter Tryz.func169, Tryz.ntmps169
  go_wp2
  go_ret
  exact ⟨rfl, rfl⟩

set_option maxRecDepth 100000 in
set_option maxHeartbeats 2000000 in
/-- slices.AppendSeq(nil, slices.Values(h)): a new row that holds just what h holds. -/
theorem append_seq (n : Nat) (hn : 3 ≤ n) (Bs len cap : Nat) (p : Option Addr) (zs : List Int) (hbig : len ≤ 1000000) (w : World) (hBs : Bs < w.heap.size) (hc : w.cell? ⟨Bs, 0, none⟩ = some (.slice p len cap)) (hR : RdI w w.heap.size p len zs) :
    CallsIn Fence.wide n Tryz.prog 174 #[.slice none 0 0, .func (.func 192) #[] #[.pointer (some ⟨Bs, 0, none⟩)]] w fun e w' =>
      ∃ v, e = .returned v ∧ w'.ownsRow w.heap.size 3 1 v zs.length (zs.map (Value.int .i64)) ∧ Below w.heap.size w w' := by
  have h1 : 1 ≤ n := by omega
  have hlen := hR.1
  have HC := Lib.hid hc
  have HR := Lib.hid hR
  clear hc hR
  obtain ⟨i0, hi, hz0, hz1, hz2⟩ := info_parts info_int
  refine callsIn_of_wp_marks Tryz.func174 rfl trivial ?_ rfl
  simp only [Tryz.ntmps174, List.size_toArray, List.length_cons, List.length_nil, Nat.reduceAdd, Nat.reduceSub, Array.replicate_succ, Array.replicate_zero, List.push_toArray, List.append_toArray, List.nil_append, List.cons_append]
  gi_wp2
  have bO := Boxed.new w 27 (.slice none 0 0)
  have hB0 : Below w.heap.size w (w.alloc (.cells #[.slice none 0 0] 27)) := (Below.refl _ w).alloc (Nat.le_refl _) _
  refine wpIn_rangeFunc_ownG rfl h1 (gf := 192) (lb := #[.pointer (some ⟨Bs, 0, none⟩)]) rfl trivial (enters_of Tryz.func192 (by kernel_rfl) rfl)
    (values_stops (n - 1) (by omega) Bs w.heap.size len cap p zs hbig (w.alloc (.cells #[.slice none 0 0] 27)) (by simp; omega) (by simp) ((hB0.cell (p := ⟨Bs, 0, none⟩) hBs).trans HC.out) (HR.out.below hB0)) belowK_t (belowK_b (by simp)) (Below.refl _ _) (fun _ => rfl)
    (fun pre W => (∃ v, Boxed W w.heap.size 27 v ∧ W.ownsRow w.heap.size 3 1 v pre.length (pre.map (Value.int .i64)) ∧ True) ∧ Below w.heap.size w W)
    (fun _ _ _ => False)
    (OwnFrom.and (Own.from (holdsRow_own w.heap.size w.heap.size 27 3 1 (fun pre : List Int => pre.length) (fun pre : List Int => pre.map (Value.int .i64)) (fun _ _ => True)) _) (ownFrom_below (Nat.le_refl _) (by simp)))
    (fun _ _ _ _ _ hs _ _ => hs)
    ⟨⟨_, bO, World.ownsRow_nil _ _ _ _, trivial⟩, hB0⟩
    (fun x => { tmps := #[.slice none 0 0, .func (.func 192) #[] #[.pointer (some ⟨Bs, 0, none⟩)], .pointer (some ⟨w.heap.size, 0, none⟩), undef, .slice none 0 0, .int .i64 x, .func (.func 192) #[] #[.pointer (some ⟨Bs, 0, none⟩)], .int .i64 x, undef, undef, undef, undef, undef], defers := [] }) ?assign ?body ?done ?stop
  case assign =>
    intro l x W K hK
    gi_wp2
    exact hK
  case body =>
    rintro l pre x W ⟨⟨v, hv, hrow, _⟩, hB⟩ hlt
    have hc := hv.cell
    gi_wp2_with (gi_at_builtin; refine wpListIn_append_own _ rfl _ _ 27 rfl w.heap.size 3 i0 (.int .i64 0) 1 8 Tryz.underlying27 hi hz0 hz1 hz2 rfl (by decide) _ _ _ rfl (hrow.alloc _) ⟨W.heap.size, 0, none⟩ 1 1 [.int .i64 x] rfl rfl (cell_one_new _ _ _) (by simp [Value.oneCell']) (by unfold maxLen; omega) (by omega) (by have := hB.size; simp; omega) ?_; intro v' w1 hown' hgrow _; obtain ⟨g', cap', rfl⟩ := ownsRow_succ hown'; obtain ⟨hv1, hv2, hr2, hk2, hb2⟩ := hv.appended (by decide) hrow hB.size (Nat.le_refl _) hown' hgrow; have hc1 := hv1.cell; have hf1 := hv1.frozen)
    exact ⟨hk2.from _, hb2, ⟨_, hv2, by simpa using hr2, trivial⟩, hB.trans hb2⟩
  case done =>
    rintro D ys W hD rfl ⟨⟨v, hv, hrow, _⟩, hB⟩ hK
    have hc := hv.cell
    gi_wp2
    refine ⟨by simp, .inl ⟨_, _, rfl, run_takeDeferred hK, ?_⟩⟩
    exact ⟨_, results_tmp rfl _ _ _, v, rfl, ownsRow_putObj hrow _ hK rfl, hB.trans (belowK_b (w := w) (Nat.le_refl _) W D _ _ (by simp at hD; omega) hK rfl rfl)⟩
  case stop =>
    rintro D c pre W _ _ h _
    exact h.elim

set_option maxRecDepth 100000 in
theorem collect_seq (Bs len cap : Nat) (p : Option Addr) (zs : List Int) (hbig : len ≤ 1000000) (w : World) (hBs : Bs < w.heap.size) (hc : w.cell? ⟨Bs, 0, none⟩ = some (.slice p len cap)) (hR : RdI w w.heap.size p len zs) :
    Calls Tryz.prog 127 #[.func (.func 192) #[] #[.pointer (some ⟨Bs, 0, none⟩)]] w fun e w' =>
      ∃ v, e = .returned v ∧ w'.ownsRow w.heap.size 3 1 v zs.length (zs.map (Value.int .i64)) ∧ Below w.heap.size w w' := by
  have HA := Lib.hid (callsIn_wide.1 (append_seq 3 (by omega) Bs len cap p zs hbig w hBs hc hR))
  clear hc hR
  go_enter Tryz.func127, Tryz.ntmps127
  go_wp2_with fail
  refine HA.out.mono ?_
  rintro e w' ⟨v, rfl, h⟩
  go_wp2
  go_ret
  exact ⟨v, rfl, h⟩
end Go.Proofs.YtlocadmiomglaaaGreatDoor

/- slices.Sorted(slices.Values(h)) and the Pile's List: the numbers, rising, in a new slice. -/
namespace Go.Proofs.YtlocadmiomglaaaGreatDoor
open Go.RowKit Go.Shelf Go.Sort

theorem rowOf_map (zs : List Int) : rowOf ncells zs = zs.map (Value.int .i64) := by
  induction zs with
  | nil => rfl
  | cons x zs ih => simp only [rowOf, List.flatMap_cons, List.map_cons] at *; rw [ih]; rfl

theorem sort_some (blk off cap : Nat) (zs : List Int) (w : World) (hH : Holds (Value.int .i64) w blk off zs.toArray) (hblk : blk < w.heap.size) (hsz : zs.length ≤ 1000000) :
    Calls Tryz.prog 125 #[.slice (some ⟨blk, off, none⟩) zs.length cap] w fun e w' =>
      e = .returned (.tuple #[]) ∧ ∃ n os, w' = grow (putRow (Value.int .i64) (Sort.ahead w n) blk off (CL.srt zs).toArray) os :=
  AnyM.slices_Sort_int Tryz.laySort blk off cap zs w hH hblk (by omega)

theorem sort_none (p : Option Addr) (cap : Nat) (w : World) :
    Calls Tryz.prog 125 #[.slice p 0 cap] w fun e w' => e = .returned (.tuple #[]) ∧ w' = w :=
  AnyM.slices_Sort_int_none Tryz.laySort p cap w

/-- slices.Sort of a row that is owned. -/
theorem sort_own (base : Nat) (v : Value) (zs : List Int) (w : World) (hn : zs.length ≤ 1000000) (ho : w.ownsRow base 3 1 v zs.length (zs.map (Value.int .i64))) :
    Calls Tryz.prog 125 #[v] w fun e w' => e = .returned (.tuple #[]) ∧ w'.ownsRow base 3 1 v zs.length ((CL.srt zs).map (Value.int .i64)) ∧ w.grownBy w' v.ownBlock := by
  rcases ho.2 with ⟨rfl, hz⟩ | ⟨gb, cap, cur, rfl, hbase, hgb, r1, r2, r3, r4⟩
  · have hzs : zs = [] := List.eq_nil_of_length_eq_zero hz
    subst hzs
    refine (sort_none none 0 w).mono ?_
    rintro e w' ⟨rfl, rfl⟩
    exact ⟨rfl, by simpa [CL.srt] using ho, ⟨rfl, rfl, rfl, Nat.le_refl _, fun _ _ _ => rfl⟩⟩
  · have hH : Holds (Value.int .i64) w gb 0 zs.toArray := holds_of_block_i hgb (by simpa using r4)
    have hgl : gb < w.heap.size := (Array.getElem?_eq_some_iff.1 hgb).1
    refine (sort_some gb 0 cap zs w hH hgl hn).mono ?_
    rintro e w' ⟨rfl, nn, os, rfl⟩
    exact ⟨rfl, ownsRow_sorted_i (by simp [CL.srt]) hbase hgb r1 r2 r3, grownBy_sorted_i _⟩

set_option maxRecDepth 100000 in
theorem sorted_seq (Bs len cap : Nat) (p : Option Addr) (zs : List Int) (hbig : len ≤ 1000000) (w : World) (hBs : Bs < w.heap.size) (hc : w.cell? ⟨Bs, 0, none⟩ = some (.slice p len cap)) (hR : RdI w w.heap.size p len zs) :
    Calls Tryz.prog 49 #[.func (.func 192) #[] #[.pointer (some ⟨Bs, 0, none⟩)]] w fun e w' =>
      ∃ v, e = .returned v ∧ w'.ownsRow w.heap.size 3 1 v zs.length ((CL.srt zs).map (Value.int .i64)) ∧ Below w.heap.size w w' := by
  have HA := Lib.hid (collect_seq Bs len cap p zs hbig w hBs hc hR)
  have HZ := Lib.hid hR.1
  clear hc hR
  go_enter Tryz.func49, Tryz.ntmps49
  go_wp2_with fail
  refine HA.out.mono ?_
  rintro e w1 ⟨v, rfl, ho, hb⟩
  have HO := Lib.hid ho
  have HB := Lib.hid hb
  clear ho hb
  go_wp2_with fail
  refine (sort_own w.heap.size v zs w1 (by have := HZ.out; omega) HO.out).mono ?_
  rintro e w2 ⟨rfl, ho2, hg⟩
  have HO2 := Lib.hid ho2
  have HG := Lib.hid hg
  clear ho2 hg
  go_wp2
  go_ret
  exact ⟨v, rfl, HO2.out, HB.out.grown HG.out HB.out.size (fun k hk => (HO.out.lt k hk).1)⟩

theorem nums_rd {pb base : Nat} {q : Option Addr} {n d : Nat} {l : List Int} {w : World} (h : PileI pb base (.slice q n d) l w) : RdI w w.heap.size q n l := by
  have ho := h.1.2.2.1
  obtain ⟨p', c', e⟩ := owns_slice ho
  injection e with _ e2 _
  subst e2
  exact RdI.of_own ho rfl

set_option maxRecDepth 100000 in
theorem pile_list (pb base : Nat) (v : Value) (l : List Int) (w : World) (h : PileI pb base v l w) :
    Calls Tryz.prog 124 #[.pointer (some ⟨pb, 0, none⟩)] w fun e w' =>
      ∃ u, e = .returned u ∧ w'.ownsRow w.heap.size 3 1 u l.length (rowOf ncells (CL.srt l)) ∧ Below w.heap.size w w' := by
  obtain ⟨q, d, rfl⟩ := owns_slice h.1.2.2.1
  have hc := h.1.1
  have hn := h.1.2.2.2.2.1
  have HR := Lib.hid (nums_rd h)
  have HH := Lib.hid h
  clear h
  go_enter Tryz.func124, Tryz.ntmps124
  go_wp2_with fail
  refine (values_call q l.length d w).mono ?_
  rintro e w1 ⟨rfl, rfl⟩
  have hb : Below w.heap.size w (w.alloc (.cells #[.slice q l.length d] 167)) := (Below.refl _ _).alloc (Nat.le_refl _) _
  have HB := Lib.hid hb
  have HS := Lib.hid (sorted_seq w.heap.size l.length d q l (by omega) (w.alloc (.cells #[.slice q l.length d] 167)) (by simp) (by go_simp) ((HR.out.below hb).more (by simp)))
  clear hb
  go_wp2_with fail
  refine HS.out.mono ?_
  rintro e w2 ⟨u, rfl, ho, hb2⟩
  have HO := Lib.hid ho
  have HB2 := Lib.hid hb2
  clear ho hb2
  go_wp2
  go_ret
  refine ⟨u, rfl, ?_, HB.out.trans (HB2.out.mono (by simp))⟩
  rw [rowOf_map]
  have := HO.out
  refine ⟨this.1, ?_⟩
  rcases this.2 with e | ⟨g, c, cur, e, hbase, rest⟩
  · exact .inl e
  · exact .inr ⟨g, c, cur, e, by simp at hbase; omega, rest⟩
end Go.Proofs.YtlocadmiomglaaaGreatDoor

/- pile's Pile in a larger struct: Put and Take leave the other cells of its block. -/
namespace Go.Proofs.YtlocadmiomglaaaGreatDoor
open Go.RowKit

/-- What holds as Put goes on: k of the numbers are there. -/
def PutRelO (pb base : Nat) (v0 : Value) (l0 zs : List Int) (w : World) (k : Nat) (wr : World) : Prop :=
  ∃ v l, PileI pb base v l wr ∧ l.Perm (l0 ++ zs.take k) ∧ Fr (pileF pb v0) w wr ∧ (∀ g, v.ownBlock = some g → Lies v0 g w.heap.size) ∧ Others pb 0 w wr

theorem PutRelO.step {pb base : Nat} {v0 v v' : Value} {l0 zs l l' : List Int} {w wr w2 : World} {k : Nat} (hk : k < zs.length) (hp : l.Perm (l0 ++ zs.take k)) (hF : Fr (pileF pb v0) w wr) (hL : ∀ g, v.ownBlock = some g → Lies v0 g w.heap.size) (hO : Others pb 0 w wr)
    (hI : PileI pb base v' l' w2) (hp' : l'.Perm (l ++ [HL.el zs k])) (hF' : Fr (fun i => i = pb ∨ v.ownBlock = some i) wr w2) (hL' : ∀ g, v'.ownBlock = some g → Lies v g wr.heap.size) (hO' : Others pb 0 wr w2) : PutRelO pb base v0 l0 zs w (k + 1) w2 := by
  refine ⟨v', l', hI, ?_, Fr.trans hF hF' (fun i hi hlt => ?_), fun g hg => ?_, hO.trans hO'⟩
  · have e : zs.take (k + 1) = zs.take k ++ [HL.el zs k] := by
      rw [List.take_succ_eq_append_getElem hk]
      have := HL.el_eq zs k hk
      rw [List.getElem?_eq_getElem hk] at this
      injection this with this
      rw [this]
    rw [e, ← List.append_assoc]
    exact hp'.trans (hp.append_right _)
  · rcases hi with hi | hi
    · exact .inl hi
    · rcases hL i hi with h | h
      · exact .inr h
      · omega
  · rcases hL' g hg with h | h
    · exact hL g h
    · exact .inr (Nat.le_trans hF.size h)

set_option maxHeartbeats 400000 in
set_option maxRecDepth 100000 in
theorem pile_put_o (pb base : Nat) (v : Value) (l zs : List Int) (p : Option Addr) (n c : Nat) (w : World) (h : PileI pb base v l w) (hz : RdI w w.heap.size p n zs) (hS : ∀ b o, p = some ⟨b, o, none⟩ → 0 < n → ¬ pileF pb v b) (hn : l.length + n < 1000000) :
    Calls Tryz.prog 164 #[.pointer (some ⟨pb, 0, none⟩), .slice p n c] w fun e w' => e = .returned (.tuple #[]) ∧
      ∃ v' l', PileI pb base v' l' w' ∧ l'.Perm (l ++ zs) ∧ Fr (pileF pb v) w w' ∧ (∀ g, v'.ownBlock = some g → Lies v g w.heap.size) ∧ Others pb 0 w w' := by
  have hzl := hz.1
  have hst : PutRelO pb base v l zs w 0 w := ⟨v, l, h, by simp, Fr.refl _ _, fun g hg => .inl hg, fun _ _ => ⟨rfl, rfl⟩⟩
  have HST := Lib.hid hst; clear hst h
  have HZ := Lib.hid hz; clear hz
  have HZL := Lib.hid hzl; clear hzl
  have HS := Lib.hid hS; clear hS
  go_enter Tryz.func164, Tryz.ntmps164
  go_wp2
  go_loopw [5, 10] (fun _ iv wr => ∃ k : Nat, k ≤ n ∧ iv = .int .i64 k ∧ PutRelO pb base v l zs w k wr) (fun _ iv _ => n - (intOf iv).toNat)
  case atStart => exact ⟨0, Nat.zero_le _, rfl, HST.out⟩
  case round =>
    clear HST
    obtain ⟨k, hk, rfl, v1, l1, hI, hp, hF, hL, hOT⟩ := hrel
    have HOT := Lib.hid hOT; clear hOT
    have hlen : l1.length ≤ l.length + k := by rw [hp.length_eq, List.length_append, List.length_take]; omega
    have HL1 := Lib.hid hL; clear hL
    by_cases hlt : k < n
    · obtain ⟨b, o, e, hb, hc⟩ := HZ.out.2 (by omega)
      have hcell := (hF.cell (p := ⟨b, o + k, none⟩) hb (HS.out b o e (by omega))).trans (hc k hlt)
      clear hc
      subst e
      have HP := Lib.hid (heap_push_nums pb 0 base v1 l1 (HL.el zs k) wr hI.1 hI.2 (by omega))
      clear hI
      generalize hx : HL.el zs k = x at *
      have HX := Lib.hid hx; clear hx
      go_wp2_with fail
      refine HP.out.mono ?_
      rintro e w2 ⟨rfl, v2, l2, hI2, hh2, hp2, hF2, hL2, hO2⟩
      have HR : Hid (PutRelO pb base v l zs w (k + 1) w2) := PutRelO.step (by rw [HZL.out]; exact hlt) hp hF HL1.out HOT.out ⟨hI2, hh2⟩ (by rw [HX.out]; exact hp2) hF2 hL2 hO2
      clear hI2 hh2 hp2 hF2 hL2 hO2
      go_wp2
      go_roundw
      case rel => exact ⟨k + 1, by omega, by go_num, HR.out⟩
      case measure => simp [intOf]; omega
    · have : k = n := by omega
      subst this
      go_wp2
      go_end0
      exact ⟨rfl, v1, l1, hI, by rw [List.take_of_length_le (by rw [HZL.out]; omega)] at hp; exact hp, hF, HL1.out, HOT.out⟩
set_option maxHeartbeats 400000 in
set_option maxRecDepth 100000 in
theorem pile_take_o (pb base : Nat) (v : Value) (l : List Int) (w : World) (h : PileI pb base v l w) (hn : 0 < l.length) :
  Calls Tryz.prog 136 #[.pointer (some ⟨pb, 0, none⟩)] w fun e w' => e = .returned (.tuple #[.int .i64 (HL.el l 0), .bool true]) ∧
  ∃ v' l', PileI pb base v' l' w' ∧ (HL.el l 0 :: l').Perm l ∧ Fr (fun k => k = pb ∨ v.ownBlock = some k) w w' ∧ v'.ownBlock = v.ownBlock ∧ Others pb 0 w w' := by
  have HL0 := Lib.hid (pile_len pb base v l w h)
  have HP := Lib.hid (heap_pop_nums pb 0 base v l w h.1 h.2 hn)
  have hne : ((l.length : Int) == 0) = false := by rw [beq_eq_false_iff_ne]; omega
  have hta := ta_int
  clear h
  generalize HL.el l 0 = x at *
  go_enter Tryz.func136, Tryz.ntmps136
  go_wp2_with fail
  refine HL0.out.mono ?_
  rintro e w' ⟨rfl, rfl⟩
  go_wp2_with fail
  refine HP.out.mono ?_
  rintro e w2 ⟨u, rfl, v', l', rfl, hI, hh, hp, hfr, hv', hoth⟩
  have HI := Lib.hid hI
  have HV := Lib.hid hv'
  have HF := Lib.hid hfr
  have HOT := Lib.hid hoth
  clear hI hv' hfr hoth
  go_wp2
  go_ret2
  exact ⟨rfl, v', l', ⟨HI.out, hh⟩, hp, HF.out, HV.out, HOT.out⟩
end Go.Proofs.YtlocadmiomglaaaGreatDoor

/- Only the blocks of F, and new ones, were written. -/
namespace Go.Proofs.YtlocadmiomglaaaGreatDoor
open Go.RowKit

/-- Only the blocks of F, and new ones, were written; those of F' are such. -/
def Step (F F' : Nat → Prop) (w w' : World) : Prop := Fr F w w' ∧ ∀ k, F' k → F k ∨ w.heap.size ≤ k
theorem Step.refl (F : Nat → Prop) (w : World) : Step F F w w := ⟨Fr.refl _ _, fun _ h => .inl h⟩
theorem Step.trans {F F1 F2 : Nat → Prop} {w w1 w2 : World} (h : Step F F1 w w1) (k : Step F1 F2 w1 w2) : Step F F2 w w2 :=
  ⟨Fr.trans h.1 k.1 (fun i hi hlt => (h.2 i hi).resolve_right (by omega)), fun i hi => by
    rcases k.2 i hi with h1 | h1
    · exact h.2 i h1
    · exact .inr (Nat.le_trans h.1.size h1)⟩
theorem Step.still {F : Nat → Prop} {w w' : World} (h : Below w.heap.size w w') : Step F F w w' := ⟨Fr.of_all h, fun _ h => .inl h⟩
theorem Step.sub {F : Nat → Prop} {w w' : World} {db : Nat} (h : Fr (fun k => k = db) w w') (hdb : F db) : Step F F w w' := ⟨h.mono (fun i _ hi => by have : i = db := hi; rw [this]; exact hdb), fun _ h => .inl h⟩
end Go.Proofs.YtlocadmiomglaaaGreatDoor

