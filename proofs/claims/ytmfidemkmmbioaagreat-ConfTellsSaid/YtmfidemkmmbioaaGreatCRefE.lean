/- arboretumref16.Change: what it answers. -/
import Derived.Test.YtmfidemkmmbioaaGreatCRefD
namespace Go.Proofs.YtmfidemkmmbioaaGreat
open Go.RowKit

/-- What Change tells: a row of the call's own, and a code. -/
def ChP (zs : List Int) (add : Bool) (id : Int) (w : World) (e : Ending) (w' : World) : Prop :=
  ∃ v, e = .returned (.tuple #[v, .int .i64 (CL.chCode zs add id)]) ∧ w'.ownsRow w.heap.size 3 1 v (CL.chRow zs add id).length (rowOf ncells (CL.chRow zs add id)) ∧ Below w.heap.size w w'

namespace CL
theorem isId_no {id : Int} (h : id < 1 ∨ 64 < id) : isId id = false := by
  unfold isId
  rcases h with h | h <;> simp <;> omega
theorem isId_yes {id : Int} (h1 : ¬ id < 1) (h2 : ¬ 64 < id) : isId id = true := by
  unfold isId
  simp
  omega
theorem ch_arg {zs : List Int} {add : Bool} {id : Int} (h : isId id = false) : chCode zs add id = 1 ∧ chRow zs add id = [] := by
  unfold chCode chRow change
  simp [h]
theorem ch_dup {zs : List Int} {id : Int} (h : isId id = true) (hm : id ∈ zs) : chCode zs true id = 8 ∧ chRow zs true id = [] := by
  unfold chCode chRow change
  simp [h, hm]
theorem ch_full {zs : List Int} {id : Int} (h : isId id = true) (hm : id ∉ zs) (h9 : 9 ≤ (nrm zs).length) : chCode zs true id = 10 ∧ chRow zs true id = [] := by
  unfold chCode chRow change
  simp [h, hm, h9]
theorem ch_put {zs : List Int} {id : Int} (h : isId id = true) (hm : id ∉ zs) (h9 : ¬ 9 ≤ (nrm zs).length) : chCode zs true id = 0 ∧ chRow zs true id = nrm (nrm zs ++ [id]) := by
  unfold chCode chRow change
  simp [h, hm, h9]
theorem ch_none {zs : List Int} {id : Int} (h : isId id = true) (hm : id ∉ zs) : chCode zs false id = 7 ∧ chRow zs false id = [] := by
  unfold chCode chRow change
  simp [h, hm]
theorem ch_state {zs : List Int} {id : Int} (h : isId id = true) (hm : id ∈ zs) (h1 : (nrm zs).length = 1) : chCode zs false id = 20 ∧ chRow zs false id = [] := by
  unfold chCode chRow change
  simp [h, hm, h1]
theorem ch_drop {zs : List Int} {id : Int} (h : isId id = true) (hm : id ∈ zs) (h1 : ¬ (nrm zs).length = 1) : chCode zs false id = 0 ∧ chRow zs false id = (nrm zs).filter (fun x => !(x == id)) := by
  unfold chCode chRow change
  simp [h, hm, h1]
theorem filter_out {l : List Int} {x : Int} (h : Up l) (hx : x ∈ l) : (l.filter (fun y => !(y == x))).length = l.length - 1 := by
  obtain ⟨i, hi, he⟩ := List.getElem_of_mem hx
  have h1 := HL.el_eq l i hi
  rw [List.getElem?_eq_getElem hi] at h1
  injection h1 with h1
  rw [← drop_at h hi (h1.symm.trans he), List.length_append, List.length_take, List.length_drop]
  omega
end CL

theorem ChP.nil {zs : List Int} {add : Bool} {id c : Int} {w w' : World} (h : CL.chCode zs add id = c ∧ CL.chRow zs add id = []) (hb : Below w.heap.size w w') : ChP zs add id w (.returned (.tuple #[.slice none 0 0, .int .i64 c])) w' := by
  refine ⟨_, by rw [h.1], ?_, hb⟩
  rw [h.2]
  exact World.ownsRow_nil _ _ _ _

set_option maxHeartbeats 8000000 in
set_option maxRecDepth 100000 in
theorem ref_change (p : Option Addr) (n c : Nat) (zs : List Int) (add : Bool) (id : Int) (w : World) (h : RdI w w.heap.size p n zs) (hn : n ≤ 1000) :
    Calls Tryz.prog 8 #[.slice p n c, .bool add, .int .i64 id] w (ChP zs add id w) := by
  obtain ⟨N, hN⟩ : ∃ N, (CL.nrm zs).length = N := ⟨_, rfl⟩
  have hNn : N ≤ 1000 := by have := CL.nrm_length zs; have := h.1; omega
  have HNRM := Lib.hid (ref_norm p n c zs w h hn)
  have HNN := Lib.hid hN
  clear h hN
  go_enter Tryz.func8, Tryz.ntmps8
  go_wp2_with fail
  refine HNRM.out.mono ?_
  rintro e w1 ⟨v, rfl, ho, hb⟩
  obtain ⟨g, cap, hv⟩ := owns_slice ho.1
  rw [HNN.out] at hv
  subst hv
  have HO := Lib.hid ho
  have HA := Lib.hid ho.rd.1
  have HB := Lib.hid hb
  have HHAS := Lib.hid (ref_has g N cap _ (CL.nrm zs) id w1 ho.rd.1 (by omega))
  have HMEM : Hid (decide (id ∈ CL.nrm zs) = decide (id ∈ zs)) := Lib.hid (by simp only [CL.nrm_mem])
  rw [HMEM.out] at HHAS
  clear ho hb HNRM HMEM
  by_cases h1 : id < 1
  · have HC := Lib.hid (CL.ch_arg (zs := zs) (add := add) (CL.isId_no (.inl h1)))
    go_wp2
    go_ret2
    exact ChP.nil HC.out HB.out
  by_cases h2 : 64 < id
  · have HC := Lib.hid (CL.ch_arg (zs := zs) (add := add) (CL.isId_no (.inr h2)))
    go_wp2
    go_ret2
    exact ChP.nil HC.out HB.out
  have HID := Lib.hid (CL.isId_yes h1 h2)
  cases add with
  | true =>
    by_cases hm : id ∈ zs
    · have hd : decide (id ∈ zs) = true := decide_eq_true hm
      have HC := Lib.hid (CL.ch_dup HID.out hm)
      rw [hd] at HHAS
      clear hm hd
      go_wp2_with fail
      refine HHAS.out.mono ?_
      rintro e w2 ⟨rfl, rfl⟩
      go_wp2
      go_ret2
      exact ChP.nil HC.out HB.out
    · have hd : decide (id ∈ zs) = false := decide_eq_false hm
      rw [hd] at HHAS
      have HM := Lib.hid hm
      clear hm hd
      by_cases h9 : (9 : Int) ≤ (N : Int)
      · have HC := Lib.hid (CL.ch_full HID.out HM.out (by rw [HNN.out]; omega))
        go_wp2_with fail
        refine HHAS.out.mono ?_
        rintro e w2 ⟨rfl, rfl⟩
        go_wp2
        go_ret2
        exact ChP.nil HC.out HB.out
      · have HC := Lib.hid (CL.ch_put HID.out HM.out (by rw [HNN.out]; omega))
        have HPUT := Lib.hid (HO.out.put id (by rw [HNN.out]; omega) HB.out.size)
        go_wp2_with fail
        refine HHAS.out.mono ?_
        rintro e w2 ⟨rfl, rfl⟩
        go_wp2_with fail
        refine HPUT.out.mono ?_
        rintro e w3 ⟨u, rfl, ho3, hb3⟩
        have HO3 := Lib.hid ho3
        have HB3 : Hid (Below w.heap.size w w3) := HB.out.trans (hb3.mono HB.out.size)
        clear ho3 hb3
        go_wp2
        go_ret2
        refine ⟨u, by rw [HC.out.1]; rfl, ?_, HB3.out⟩
        rw [HC.out.2, CL.nrm_put HM.out]
        exact HO3.out.1
  | false =>
    by_cases hm : id ∈ zs
    · have hd : decide (id ∈ zs) = true := decide_eq_true hm
      rw [hd] at HHAS
      have HM := Lib.hid hm
      clear hm hd
      by_cases hN1 : N = 1
      · have hq : ((N : Int) == 1) = true := by rw [hN1]; rfl
        have HC := Lib.hid (CL.ch_state HID.out HM.out (by rw [HNN.out]; exact hN1))
        clear hN1
        go_wp2_with fail
        refine HHAS.out.mono ?_
        rintro e w2 ⟨rfl, rfl⟩
        go_wp2
        go_ret2
        exact ChP.nil HC.out HB.out
      · have hq : ((N : Int) == 1) = false := by rw [beq_eq_false_iff_ne]; omega
        have HC := Lib.hid (CL.ch_drop HID.out HM.out (by rw [HNN.out]; exact hN1))
        have hN0 : 0 < N := by rw [← HNN.out]; exact List.length_pos_of_mem (CL.nrm_mem.2 HM.out)
        have HDROP : Hid (Calls Tryz.prog 33 #[.slice g N cap, .int .i64 id] w1 (DropPost w1 N ((CL.nrm zs).filter (fun y => !(y == id))))) := Lib.hid (by
          have ho := HO.out.1
          rw [HNN.out] at ho
          rcases ho.2 with ⟨_, h⟩ | ⟨g', cap', cur, e, _, _, hc, hcm, _⟩
          · omega
          · injection e with e1 _ e3
            subst e1 e3
            exact ref_drop g' 0 N cap (CL.nrm zs) id w1 HA.out (by omega) hc hcm (CL.nrm_up zs) (CL.nrm_mem.2 HM.out))
        have HLN : Hid (((CL.nrm zs).filter (fun y => !(y == id))).length = N - 1) := Lib.hid (by rw [CL.filter_out (CL.nrm_up zs) (CL.nrm_mem.2 HM.out), HNN.out])
        clear hN1 hN0
        go_wp2_with fail
        refine HHAS.out.mono ?_
        rintro e w2 ⟨rfl, rfl⟩
        go_wp2_with fail
        refine HDROP.out.mono ?_
        rintro e w3 ⟨u, rfl, ho3, hb3⟩
        have HO3 := Lib.hid (owns_more ho3 HB.out.size)
        have HB3 : Hid (Below w.heap.size w w3) := HB.out.trans (hb3.mono HB.out.size)
        clear ho3 hb3
        go_wp2
        go_ret2
        refine ⟨u, by rw [HC.out.1]; rfl, ?_, HB3.out⟩
        rw [HC.out.2, HLN.out]
        exact HO3.out
    · have hd : decide (id ∈ zs) = false := decide_eq_false hm
      have HC := Lib.hid (CL.ch_none HID.out hm)
      rw [hd] at HHAS
      clear hm hd
      go_wp2_with fail
      refine HHAS.out.mono ?_
      rintro e w2 ⟨rfl, rfl⟩
      go_wp2
      go_ret2
      exact ChP.nil HC.out HB.out
end Go.Proofs.YtmfidemkmmbioaaGreat
