/- conf: the contract of Won. -/
import Derived.Test.YtmfidemkmmbioaaGreatConfV
namespace Go.Proofs.YtmfidemkmmbioaaGreat
open Go.RowKit

namespace CL
theorem take_succ_el {l : List Int} {i : Nat} (h : i < l.length) : l.take (i + 1) = l.take i ++ [HL.el l i] := by
  rw [List.take_add_one]
  congr 1
  have h1 : l[i]? = some (HL.el l i) := HL.el_eq l i h
  rw [h1]
  rfl
theorem cnt_succ {l us : List Int} {i : Nat} (h : i < l.length) : cnt (l.take (i + 1)) us = cnt (l.take i) us + (if HL.el l i ∈ us then 1 else 0) := by
  rw [take_succ_el h]
  unfold cnt
  rw [List.filter_append, List.length_append]
  congr 1
  by_cases h1 : HL.el l i ∈ us <;> simp [h1]
end CL

set_option maxHeartbeats 1000000 in
set_option maxRecDepth 100000 in
theorem won_ints (p q : Option Addr) (n c k d : Nat) (zs us : List Int) (w : World) (h : RdI w w.heap.size p n zs) (h2 : RdI w w.heap.size q k us) (hn : n ≤ 1000) (hk : k ≤ 1000) :
    Calls Tryz.prog 18 #[.slice p n c, .slice q k d] w fun e w' => e = .returned (.bool (CL.won zs us)) ∧ Below w.heap.size w w' := by
  obtain ⟨N, hN⟩ : ∃ N, (CL.nrm zs).length = N := ⟨_, rfl⟩
  have hNn : N ≤ 1000 := by have := CL.nrm_length zs; have := h.1; omega
  have HR := Lib.hid h
  have HU := Lib.hid h2
  have HNN := Lib.hid hN
  clear h h2 hN
  go_enter Tryz.func18, Tryz.ntmps18
  go_wp2_with fail
  refine (norm_ints p n c zs w HR.out (by omega) N HNN.out).mono ?_
  rintro e w1 ⟨g, cap, rfl, ho, hb⟩
  have HA := Lib.hid (RdI.of_own ho HNN.out)
  have HB := Lib.hid hb
  have HU1 := Lib.hid ((HU.out.below hb).more hb.size)
  clear ho hb
  go_wp2
  go_loop [6, 8, 13] (fun cv _ iv => ∃ i : Nat, i ≤ N ∧ iv = .int .i64 i ∧ ∃ t : Nat, t ≤ i ∧ cv = .int .i64 t ∧ t = CL.cnt ((CL.nrm zs).take i) us) (fun _ _ iv => N - (intOf iv).toNat)
  case atStart => exact ⟨0, Nat.zero_le _, rfl, 0, Nat.le_refl _, rfl, by simp [CL.cnt]⟩
  case round =>
    obtain ⟨i, hi, rfl, t, hti, rfl, ht⟩ := hrel
    have HT := Lib.hid ht
    clear ht
    by_cases hlt : i < N
    · obtain ⟨b, o, hp, _, hcs⟩ := HA.out.2 (by omega)
      have hcell := hcs i hlt
      clear hcs
      subst hp
      have HCS := Lib.hid (CL.cnt_succ (l := CL.nrm zs) (us := us) (i := i) (by rw [HNN.out]; exact hlt))
      have HHAS := Lib.hid (has_ints q k d _ us (HL.el (CL.nrm zs) i) w1 HU1.out (by omega))
      generalize hx : HL.el (CL.nrm zs) i = x at *
      clear hx
      by_cases hm : x ∈ us
      · have hd : decide (x ∈ us) = true := by simpa using hm
        rw [hd] at HHAS
        rw [if_pos hm] at HCS
        clear hm hd
        go_wp2_with fail
        refine HHAS.out.mono ?_
        rintro e w2 ⟨rfl, rfl⟩
        go_wp2
        go_round
        case rel => exact ⟨i + 1, by omega, by go_num, t + 1, by omega, by go_num, by rw [HCS.out, HT.out]⟩
        case measure => simp [intOf]; omega
      · have hd : decide (x ∈ us) = false := by simpa using hm
        rw [hd] at HHAS
        rw [if_neg hm] at HCS
        clear hm hd
        go_wp2_with fail
        refine HHAS.out.mono ?_
        rintro e w2 ⟨rfl, rfl⟩
        go_wp2
        go_round
        case rel => exact ⟨i + 1, by omega, by go_num, t, by omega, rfl, by rw [HCS.out, HT.out]; rfl⟩
        case measure => simp [intOf]; omega
    · have hiN : i = N := by omega
      subst hiN
      have HC : Hid (t = CL.cnt (CL.nrm zs) us) := by
        have e := HT.out
        rw [List.take_of_length_le (by rw [HNN.out]; exact Nat.le_refl _)] at e
        exact e
      clear HT
      have HW : Hid (CL.won zs us = (decide (0 < t) && decide (CL.quo i ≤ t))) := by
        have e : CL.won zs us = (decide (0 < CL.cnt (CL.nrm zs) us) && decide (CL.quo (CL.nrm zs).length ≤ CL.cnt (CL.nrm zs) us)) := rfl
        rw [← HC.out, HNN.out] at e
        exact e
      have HQ := Lib.hid (quorum_int i w1 (by omega))
      by_cases h0 : 0 < t
      · go_wp2_with fail
        refine HQ.out.mono ?_
        rintro e w2 ⟨rfl, rfl⟩
        generalize hq : CL.quo i = qq at *
        clear hq
        go_wp2
        go_ret
        exact ⟨by rw [HW.out]; simp [h0], HB.out⟩
      · go_wp2
        go_ret
        exact ⟨by rw [HW.out]; simp [h0], HB.out⟩
end Go.Proofs.YtmfidemkmmbioaaGreat
