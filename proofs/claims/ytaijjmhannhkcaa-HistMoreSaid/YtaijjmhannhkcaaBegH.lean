/- hist's begins are a heap.Interface in the sense of HeapRep; heap.Push and heap.Pop on them. -/
import Derived.Test.YtaijjmhannhkcaaBeg
namespace Go.Proofs.Ytaijjmhannhkcaa
open Go.RowKit

def efrm (zs : List Ev) (x : Int) : Int := (zs.getD x.toNat default).frm
def blt (zs : List Ev) (x y : Int) : Bool := decide (efrm zs x < efrm zs y) || (efrm zs x == efrm zs y && decide (x.toNat < y.toNat))
theorem blt_ord (zs : List Ev) : HL.Ord (blt zs) where
  asymm := fun a b h => by
    unfold blt at *
    simp only [Bool.or_eq_true, Bool.and_eq_true, decide_eq_true_eq, beq_iff_eq, Bool.or_eq_false_iff, Bool.and_eq_false_iff, decide_eq_false_iff_not, beq_eq_false_iff_ne] at *
    rcases h with h | ⟨h, h2⟩
    · exact ⟨by omega, .inl (by omega)⟩
    · exact ⟨by omega, .inr (by omega)⟩
  trans := fun a b c h1 h2 => by
    unfold blt at *
    simp only [Bool.or_eq_false_iff, Bool.and_eq_false_iff, decide_eq_false_iff_not, beq_eq_false_iff_ne] at *
    obtain ⟨h1, h3⟩ := h1
    obtain ⟨h2, h4⟩ := h2
    refine ⟨by omega, ?_⟩
    by_cases e : efrm zs c = efrm zs a
    · right
      rcases h3 with h3 | h3
      · omega
      · rcases h4 with h4 | h4
        · omega
        · omega
    · exact .inl e

/-- The places, in the second cell of block hb. -/
def AtI (hb base : Nat) (v : Value) (l : List Int) (w : World) : Prop :=
  w.cell? ⟨hb, 1, none⟩ = some v ∧ w.frozen? ⟨hb, 1, none⟩ = false ∧ w.ownsRow base 3 1 v l.length (rowOf ncells l) ∧ v.ownBlock ≠ some hb ∧ l.length ≤ 1000000 ∧ base ≤ w.heap.size
def BegI (hb base : Nat) (lp : Option Addr) (m ec : Nat) (zs : List Ev) (v : Value) (l : List Int) (w : World) : Prop :=
  AtI hb base v l w ∧ w.cell? ⟨hb, 0, none⟩ = some (.slice lp m ec) ∧ RdG evc w base lp m zs ∧ ∀ x ∈ l, 0 ≤ x ∧ x < (m : Int)
def OwnB (v : Value) (w w' : World) : Prop := Fr (fun k => v.ownBlock = some k) w w'

theorem AtI.cells {hb base g n cap : Nat} {l : List Int} {w : World} (h : AtI hb base (.slice (some ⟨g, 0, none⟩) n cap) l w) (hn : n = l.length) (k : Nat) (hk : k < l.length) :
    w.cell? ⟨g, k, none⟩ = some (.int .i64 (HL.el l k)) := by
  subst hn
  have ho := h.2.2.1
  have r0 := rowOf_at ncells ncells_length l k 0 hk (by omega)
  rw [Nat.mul_one, Nat.add_zero] at r0
  rw [ho.cellAt k (by omega)]
  exact r0
theorem AtI.keep {hb base : Nat} {v : Value} {l : List Int} {w w' : World} (h : AtI hb base v l w) {S : Nat → Prop} (hf : Fr S w w') (h1 : ¬ S hb) (h2 : ∀ g, v.ownBlock = some g → ¬ S g) : AtI hb base v l w' := by
  obtain ⟨a, b, c, d, e, f⟩ := h
  have hlt := cell_lt a
  exact ⟨(hf.cell hlt h1).trans a, (hf.frozen hlt h1).trans b, hf.owns c h2, d, e, Nat.le_trans f hf.size⟩
theorem AtI.set {hb base g n cap : Nat} {l : List Int} {w : World} (h : AtI hb base (.slice (some ⟨g, 0, none⟩) n cap) l w) (k : Nat) (hk : k < l.length) (x : Int) :
    AtI hb base (.slice (some ⟨g, 0, none⟩) n cap) (l.set k x) (w.setCell ⟨g, k, none⟩ (.int .i64 x)) ∧ OwnB (.slice (some ⟨g, 0, none⟩) n cap) w (w.setCell ⟨g, k, none⟩ (.int .i64 x)) := by
  obtain ⟨a, b, c, d, e, f⟩ := h
  have hn : n = l.length := by
    obtain ⟨p, cp, hv⟩ := owns_slice c
    injection hv
  subst hn
  have s1 := c.stored k (.int .i64 x)
  have hF : OwnB (.slice (some ⟨g, 0, none⟩) l.length cap) w (w.setCell ⟨g, k, none⟩ (.int .i64 x)) :=
    (Fr.refl (fun i => Value.ownBlock (.slice (some ⟨g, 0, none⟩) l.length cap) = some i) w).setCell (p := ⟨g, k, none⟩) (fun _ => rfl) _
  have hlt := cell_lt a
  have hns : ¬ (Value.ownBlock (.slice (some ⟨g, 0, none⟩) l.length cap) = some hb) := d
  refine ⟨⟨(hF.cell hlt hns).trans a, (hF.frozen hlt hns).trans b, ?_, d, by rw [List.length_set]; exact e, Nat.le_trans f hF.size⟩, hF⟩
  rw [List.length_set, ← rowOf_set1 ncells ncells_length l k x _ rfl hk]
  exact s1.1

section
variable {hb base m ec : Nat} {lp : Option Addr} {zs : List Ev} {v v' : Value} {l l' : List Int} {w w' : World}
/-- What the heap's operations leave. -/
theorem BegI.turn (h : BegI hb base lp m ec zs v l w) (hA : AtI hb base v' l' w') {S : Nat → Prop} (hF : Fr S w w') (h0 : w'.cell? ⟨hb, 0, none⟩ = w.cell? ⟨hb, 0, none⟩) (hS : ∀ k, S k → base ≤ k) (hm : ∀ x ∈ l', 0 ≤ x ∧ x < (m : Int)) : BegI hb base lp m ec zs v' l' w' :=
  ⟨hA, h0.trans h.2.1, h.2.2.1.below (hF.below h.1.2.2.2.2.2 hS), hm⟩

theorem ev_cell (h : RdG evc w base lp m zs) (x : Nat) (hx : x < m) : ∃ b o, lp = some ⟨b, o, none⟩ ∧ b < base ∧ ∀ c u, (evc (zs.getD x default))[c]? = some u → c < 14 → w.cell? ⟨b, o + x * 14 + c, none⟩ = some u := by
  obtain ⟨b, o, e, hb, hc⟩ := h.2 (by omega)
  refine ⟨b, o, e, hb, fun c u hu hc14 => ?_⟩
  have e1 := rowOf_at evc evc_length zs x c (by rw [h.1]; exact hx) hc14
  have := hc (x * 14 + c) u (e1.trans hu)
  rw [← Nat.add_assoc] at this
  exact this

theorem inv_beg_len (a : Addr) (w : World) : (invoke (.fn (.method "Len") #[]) #[.iface 66 (.pointer (some a))]).run Try.prog w = .ok (.enter 29 #[.pointer (some a)]) w := by kernel_rfl
theorem inv_beg_less (a : Addr) (i j : Int) (w : World) : (invoke (.fn (.method "Less") #[]) (#[.iface 66 (.pointer (some a))] ++ #[.int .i64 i, .int .i64 j])).run Try.prog w = .ok (.enter 74 #[.pointer (some a), .int .i64 i, .int .i64 j]) w := by kernel_rfl
theorem inv_beg_swap (a : Addr) (i j : Int) (w : World) : (invoke (.fn (.method "Swap") #[]) (#[.iface 66 (.pointer (some a))] ++ #[.int .i64 i, .int .i64 j])).run Try.prog w = .ok (.enter 77 #[.pointer (some a), .int .i64 i, .int .i64 j]) w := by kernel_rfl
theorem inv_beg_push (a : Addr) (x : Value) (w : World) : (invoke (.fn (.method "Push") #[]) (#[.iface 66 (.pointer (some a))] ++ #[x])).run Try.prog w = .ok (.enter 76 #[.pointer (some a), x]) w := by kernel_rfl
theorem inv_beg_pop (a : Addr) (w : World) : (invoke (.fn (.method "Pop") #[]) (#[.iface 66 (.pointer (some a))] ++ #[])).run Try.prog w = .ok (.enter 75 #[.pointer (some a)]) w := by kernel_rfl

theorem mem_swp {l : List Int} {i j : Nat} (hi : i < l.length) (hj : j < l.length) {x : Int} (h : x ∈ HL.swp l i j) : x ∈ l := (HL.swp_perm l i j hi hj).subset h

theorem beg_rep (hb base : Nat) (lp : Option Addr) (m ec : Nat) (zs : List Ev) (v : Value) : HeapRep Try.prog (.iface 66 (.pointer (some ⟨hb, 0, none⟩))) (blt zs) (BegI hb base lp m ec zs v) (OwnB v) where
  refl := fun w => Fr.refl _ w
  trans := fun w1 w2 w3 h k => Fr.trans h k (fun i hi _ => hi)
  ord := blt_ord zs
  small := fun l w h => h.1.2.2.2.2.1
  len := fun l w h => by
    obtain ⟨p, c, hv⟩ := owns_slice h.1.2.2.1
    refine ⟨_, _, inv_beg_len ⟨hb, 0, none⟩ w, ?_⟩
    refine (len_beg hb p l.length c w (by rw [h.1.1, hv])).mono ?_
    rintro e w' ⟨rfl, rfl⟩
    exact ⟨_, rfl, rfl, h, Fr.refl _ _⟩
  less := fun l w h i j hi0 hi hj0 hj => by
    obtain ⟨g, cap, hv, _, hg, _⟩ := owns_len h.1.2.2.1 (by omega)
    have hA : AtI hb base (.slice (some ⟨g, 0, none⟩) l.length cap) l w := hv ▸ h.1
    have hx := hA.cells rfl i.toNat (by omega)
    have hy := hA.cells rfl j.toNat (by omega)
    have mx : HL.el l i.toNat ∈ l := by
      have e : HL.el l i.toNat = l[i.toNat]'(by omega) := by simp [HL.el, show i.toNat < l.length by omega]
      rw [e]; exact List.getElem_mem _
    have my : HL.el l j.toNat ∈ l := by
      have e : HL.el l j.toNat = l[j.toNat]'(by omega) := by simp [HL.el, show j.toNat < l.length by omega]
      rw [e]; exact List.getElem_mem _
    obtain ⟨hx0, hxm⟩ := h.2.2.2 _ mx
    obtain ⟨hy0, hym⟩ := h.2.2.2 _ my
    refine ⟨_, _, inv_beg_less ⟨hb, 0, none⟩ i j w, ?_⟩
    obtain ⟨i, rfl⟩ := Int.eq_ofNat_of_zero_le hi0
    obtain ⟨j, rfl⟩ := Int.eq_ofNat_of_zero_le hj0
    rw [Int.toNat_natCast] at hx hy hx0 hy0 hxm hym
    rw [Int.toNat_natCast, Int.toNat_natCast]
    generalize HL.el l i = x at *
    generalize HL.el l j = y at *
    obtain ⟨x, rfl⟩ := Int.eq_ofNat_of_zero_le hx0
    obtain ⟨y, rfl⟩ := Int.eq_ofNat_of_zero_le hy0
    obtain ⟨b, o, e, _, hcx⟩ := ev_cell h.2.2.1 x (by omega)
    obtain ⟨b2, o2, e2, _, hcy⟩ := ev_cell h.2.2.1 y (by omega)
    rw [e] at e2
    injection e2 with e2
    injection e2 with e3 e4 _
    subst e3 e4
    refine (less_beg hb g l.length cap i j b o m ec x y (efrm zs x) (efrm zs y) w (by rw [h.2.1, e]) hA.1 (by omega) (by omega) hx hy (by omega) (by omega) (hcx 11 _ rfl (by omega)) (hcy 11 _ rfl (by omega))).mono ?_
    rintro e' w' ⟨rfl, hB⟩
    have hF : Fr (fun k => v.ownBlock = some k) w w' := Fr.of_all hB
    refine ⟨_, rfl, rfl, ?_, hF⟩
    have hF0 : Fr (fun _ => False) w w' := Fr.of_all hB
    exact h.turn (h.1.keep hF0 (fun h => h) (fun _ _ h => h)) hF0 (hB.cell (p := ⟨hb, 0, none⟩) (cell_lt h.2.1)) (fun _ h => h.elim) h.2.2.2
  swap := fun l w h i j hi0 hi hj0 hj => by
    obtain ⟨g, cap, hv, hgb, hg, _⟩ := owns_len h.1.2.2.1 (by omega)
    have hA : AtI hb base (.slice (some ⟨g, 0, none⟩) l.length cap) l w := hv ▸ h.1
    have hx := hA.cells rfl i.toNat (by omega)
    have hy := hA.cells rfl j.toNat (by omega)
    refine ⟨_, _, inv_beg_swap ⟨hb, 0, none⟩ i j w, ?_⟩
    obtain ⟨i, rfl⟩ := Int.eq_ofNat_of_zero_le hi0
    obtain ⟨j, rfl⟩ := Int.eq_ofNat_of_zero_le hj0
    rw [Int.toNat_natCast] at hx hy
    have s1 := hA.set i (by omega) (HL.el l j)
    have s2 := s1.1.set j (by rw [List.length_set]; omega) (HL.el l i)
    have hfz : ∀ k, w.frozen? ⟨g, k, none⟩ = false := fun k => hA.2.2.1.frozenAt k
    have hgne : ¬ g = hb := fun e => hA.2.2.2.1 (by rw [e]; rfl)
    have hF : OwnB v w ((w.setCell ⟨g, i, none⟩ (.int .i64 (HL.el l j))).setCell ⟨g, j, none⟩ (.int .i64 (HL.el l i))) := by rw [hv]; exact Fr.trans s1.2 s2.2 (fun k hk _ => hk)
    have hfin : BegI hb base lp m ec zs v (HL.swp l i j) ((w.setCell ⟨g, i, none⟩ (.int .i64 (HL.el l j))).setCell ⟨g, j, none⟩ (.int .i64 (HL.el l i))) := by
      refine h.turn (by rw [hv]; exact s2.1) hF (hF.cell (p := ⟨hb, 0, none⟩) (cell_lt h.2.1) h.1.2.2.2.1) (fun k hk => (h.1.2.2.1.lt k hk).1) (fun x hx => h.2.2.2 x (mem_swp (by omega) (by omega) hx))
    have hd : BegI hb base lp m ec zs v (HL.swp l i j) ((w.setCell ⟨g, i, none⟩ (.int .i64 (HL.el l j))).setCell ⟨g, j, none⟩ (.int .i64 (HL.el l i))).drew := hfin
    rw [Int.toNat_natCast, Int.toNat_natCast]
    by_cases hij : i = j
    · subst hij
      refine (swap_beg_same hb g l.length cap i (HL.el l i) w hA.1 (by omega) hx hfz).mono ?_
      rintro e w' ⟨rfl, rfl⟩
      exact ⟨_, rfl, hd, hF.drew⟩
    · refine (swap_beg hb g l.length cap i j (HL.el l i) (HL.el l j) w hA.1 (by omega) (by omega) hij hgne hx hy hfz).mono ?_
      rintro e w' ⟨rfl, rfl⟩
      exact ⟨_, rfl, hd, hF.drew⟩
end
end Go.Proofs.Ytaijjmhannhkcaa
