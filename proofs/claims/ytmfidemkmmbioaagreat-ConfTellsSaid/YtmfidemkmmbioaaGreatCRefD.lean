/- arboretumref16's Reached, Change: what they answer. -/
import Derived.Test.YtmfidemkmmbioaaGreatCRefC
import Derived.Test.YtmfidemkmmbioaaGreatCDrop
namespace Go.Proofs.YtmfidemkmmbioaaGreat
open Go.RowKit

namespace CL
/-- What is looked up, of the places from j on. -/
def VR (ids ats : List Int) (x : Int) (j : Nat) (v : Int) : Prop :=
  (v = 0 ∧ ∀ i, j ≤ i → i < ids.length → HL.el ids i ≠ x) ∨ (∃ i0, j ≤ i0 ∧ i0 < ids.length ∧ HL.el ids i0 = x ∧ (∀ i, j ≤ i → i < i0 → HL.el ids i ≠ x) ∧ v = if i0 < ats.length then HL.el ats i0 else 0)

theorem VR.top (ids ats : List Int) (x : Int) : VR ids ats x ids.length 0 := .inl ⟨rfl, fun i h1 h2 => by omega⟩
theorem VR.hit {ids ats : List Int} {x : Int} {j : Nat} (hj : j < ids.length) (hx : HL.el ids j = x) : VR ids ats x j (if j < ats.length then HL.el ats j else 0) :=
  .inr ⟨j, Nat.le_refl _, hj, hx, fun i h1 h2 => by omega, rfl⟩
theorem VR.miss {ids ats : List Int} {x : Int} {j : Nat} {v : Int} (hx : HL.el ids j ≠ x) (h : VR ids ats x (j + 1) v) : VR ids ats x j v := by
  rcases h with ⟨h0, h⟩ | ⟨i0, h1, h2, h3, h4, h5⟩
  · exact .inl ⟨h0, fun i hi hl => by
      by_cases e : i = j
      · subst e; exact hx
      · exact h i (by omega) hl⟩
  · exact .inr ⟨i0, by omega, h2, h3, fun i hi hl => by
      by_cases e : i = j
      · subst e; exact hx
      · exact h4 i (by omega) hl, h5⟩
theorem VR.val {ids ats : List Int} {x v : Int} (h : VR ids ats x 0 v) : v = val ids ats x := by
  unfold CL.val
  rcases h with ⟨h0, h⟩ | ⟨i0, _, h2, h3, h4, h5⟩
  · have hn : x ∉ ids := fun hm => by
      obtain ⟨i, hi, he⟩ := List.getElem_of_mem hm
      have h1 := HL.el_eq ids i hi
      rw [List.getElem?_eq_getElem hi] at h1
      injection h1 with h1
      exact h i (Nat.zero_le _) hi (h1.symm.trans he)
    rw [findIdx_none hn, if_neg (by omega)]
    exact h0
  · rw [findIdx_first h2 h3 (fun j hj => h4 j (Nat.zero_le _) hj), h5]
    by_cases e : i0 < ats.length
    · rw [if_pos e, if_pos ⟨h2, e⟩]
    · rw [if_neg e, if_neg (fun h => e h.2)]
end CL

set_option maxHeartbeats 8000000 in
set_option maxRecDepth 100000 in
theorem ref_reached (p q r : Option Addr) (n c K d J f : Nat) (zs ids ats : List Int) (w : World) (h : RdI w w.heap.size p n zs) (h2 : RdI w w.heap.size q K ids) (h3 : RdI w w.heap.size r J ats) (hn : n ≤ 1000) (hK : K ≤ 1000) (hJ : J ≤ 1000) :
    Calls Tryz.prog 21 #[.slice p n c, .slice q K d, .slice r J f] w fun e w' => e = .returned (.int .i64 (CL.reached zs ids ats)) ∧ Below w.heap.size w w' := by
  obtain ⟨N, hN⟩ : ∃ N, (CL.nrm zs).length = N := ⟨_, rfl⟩
  have hNn : N ≤ 1000 := by have := CL.nrm_length zs; have := h.1; omega
  have HNRM := Lib.hid (ref_norm p n c zs w h hn)
  have HI := Lib.hid h2
  have HT := Lib.hid h3
  have HNN := Lib.hid hN
  clear h h2 h3 hN
  go_enter Tryz.func21, Tryz.ntmps21
  go_wp2_with fail
  refine HNRM.out.mono ?_
  rintro e w1 ⟨v, rfl, ho, hb⟩
  obtain ⟨g, cap, hv⟩ := owns_slice ho.1
  rw [HNN.out] at hv
  subst hv
  have HA := Lib.hid ho.rd.1
  have HB := Lib.hid hb
  clear ho hb HNRM
  go_wp2
  go_loopw [8, 9] (fun lv iv wr => ∃ i : Nat, i ≤ N ∧ iv = .int .i64 i ∧ ∃ l, Hid (l = CL.srt (((CL.nrm zs).take i).map (CL.val ids ats))) ∧ Hid (OwnR wr w1.heap.size lv l) ∧ Hid (Below w1.heap.size w1 wr)) (fun _ iv _ => N - (intOf iv).toNat)
  case atStart => exact ⟨0, Nat.zero_le _, rfl, [], Lib.hid (by rw [List.take_zero]; exact (List.eq_nil_of_length_eq_zero (CL.srt_length [])).symm), Lib.hid (OwnR.nil _ _), Lib.hid (Below.refl _ _)⟩
  case round =>
    obtain ⟨i, hi, rfl, l, HLL, HO, HBR⟩ := hrel
    have HBW : Hid (Below w.heap.size w wr) := HB.out.trans (HBR.out.mono HB.out.size)
    have hls : l.length = i := by rw [HLL.out, CL.srt_length, List.length_map, List.length_take, HNN.out]; omega
    have HLS := Lib.hid hls
    clear hls
    by_cases hlt : i < N
    · have hltI : (i : Int) < (N : Int) := by omega
      have HAA := Lib.hid (HA.out.below HBR.out)
      obtain ⟨b, o, hp, _, hcs⟩ := HAA.out.2 (by omega)
      have hcell := hcs i hlt
      clear hcs
      subst hp
      have HSU : Hid (CL.srt (((CL.nrm zs).take (i + 1)).map (CL.val ids ats)) = CL.ins l (CL.val ids ats (HL.el (CL.nrm zs) i))) := Lib.hid (by
        rw [CL.take_succ_el (by rw [HNN.out]; exact hlt), List.map_append, List.map_cons, List.map_nil, CL.srt_ins, ← HLL.out])
      generalize HL.el (CL.nrm zs) i = x at *
      generalize hw0 : wr = w0 at *
      clear hw0
      go_wp2
      go_loopw [10, 11] (fun vv kv wj => ∃ j : Nat, j ≤ K ∧ kv = .int .i64 ((j : Int) - 1) ∧ ∃ v : Int, vv = .int .i64 v ∧ Hid (CL.VR ids ats x j v) ∧ Hid (Below w0.heap.size w0 wj)) (fun _ kv _ => (intOf kv + 1).toNat)
      case atStart => exact ⟨K, Nat.le_refl _, by simp, 0, rfl, Lib.hid (by have e := CL.VR.top ids ats x; rw [HI.out.1] at e; exact e), Lib.hid (Below.refl _ _)⟩
      case round =>
        obtain ⟨j, hj, rfl, v, rfl, HV, HBJ⟩ := hrel
        have hcx := (HBJ.out.cell (p := ⟨b, o + i, none⟩) (cell_lt hcell)).trans hcell
        cases j with
        | zero =>
          have HVV : Hid (v = CL.val ids ats x) := Lib.hid HV.out.val
          have HO2 : Hid (OwnR wr w1.heap.size u8 l) := Lib.hid ⟨(Fr.of_all (S := fun _ => False) HBJ.out).owns HO.out.1 (fun _ _ h => h), HO.out.2⟩
          have HB2 : Hid (Below w1.heap.size w1 wr) := HBR.out.trans (HBJ.out.mono HBR.out.size)
          have HPUT := Lib.hid (HO2.out.put v (by rw [HLS.out]; omega) HB2.out.size)
          have e0 : ((0 : Nat) : Int) - 1 = -1 := rfl
          rw [e0]
          clear e0 hcx HV
          go_wp2_with fail
          refine HPUT.out.mono ?_
          rintro e w5 ⟨u, rfl, ho5, hb5⟩
          have HO5 : Hid (OwnR w5 w1.heap.size u (CL.ins l (CL.val ids ats x))) := Lib.hid (by rw [← HVV.out]; exact ho5)
          have HB5 : Hid (Below w1.heap.size w1 w5) := HB2.out.trans (hb5.mono HB2.out.size)
          clear ho5 hb5 HPUT
          go_wp2
          go_roundw
          case rel => exact ⟨i + 1, by omega, by go_num, _, Lib.hid HSU.out.symm, HO5, HB5⟩
          case measure => simp [intOf]; omega
        | succ j =>
          have e0 : ((j + 1 : Nat) : Int) - 1 = (j : Int) := by omega
          rw [e0]
          have hjK : (j : Int) < (K : Int) := by omega
          obtain ⟨b2, o2, hp2, _, hcs2⟩ := (HI.out.below (HBW.out.trans (HBJ.out.mono HBW.out.size))).2 (by omega)
          have hcy := hcs2 j (by omega)
          clear hcs2 e0
          subst hp2
          have l1 := cell_lt hcx
          have l2 := cell_lt hcy
          have q1 : ∀ q : Later wr, q.1.cell? ⟨b, o + i, none⟩ = some (.int .i64 x) := fun q => (q.2.cell (p := ⟨b, o + i, none⟩) l1).trans hcx
          have q2 : ∀ q : Later wr, q.1.cell? ⟨b2, o2 + j, none⟩ = some (.int .i64 (HL.el ids j)) := fun q => (q.2.cell (p := ⟨b2, o2 + j, none⟩) l2).trans hcy
          clear hcx hcy l1 l2
          by_cases hy : HL.el ids j = x
          · have HVH : Hid (CL.VR ids ats x j (if j < J then HL.el ats j else 0)) := Lib.hid (by have e := CL.VR.hit (ats := ats) (by have := HI.out.1; omega) hy; rw [HT.out.1] at e; exact e)
            rw [hy] at q2
            have hq : (x == x) = true := by simp
            clear hy HV
            go_wp2
            refine wp_region_later (by kernel_rfl) (by kernel_rfl) ?_
            repeat (go_big_quiet_step (fail))
            refine wpQuiet_nil ?_
            intro W1 hw'
            obtain ⟨⟨wq, hq'⟩, hw''⟩ := hw'
            subst hw''
            have HB1 := Lib.hid (HBJ.out.trans (hq'.mono HBJ.out.size))
            clear q1 q2 hq hq'
            by_cases hjJ : j < J
            · have hjI : (j : Int) < (J : Int) := by omega
              rw [if_pos hjJ] at HVH
              obtain ⟨b3, o3, hp3, _, hcs3⟩ := (HT.out.below (HBW.out.trans (HB1.out.mono HBW.out.size))).2 (by omega)
              have hc3 := hcs3 j hjJ
              clear hcs3
              subst hp3
              go_wp2
              go_roundw
              case rel => exact ⟨j, by omega, by simp, _, rfl, HVH, HB1⟩
              case measure => simp [intOf]
            · have hjI : ¬ (j : Int) < (J : Int) := by omega
              rw [if_neg hjJ] at HVH
              go_wp2
              go_roundw
              case rel => exact ⟨j, by omega, by simp, _, rfl, HVH, HB1⟩
              case measure => simp [intOf]
          · have HVM : Hid (CL.VR ids ats x j v) := Lib.hid (HV.out.miss hy)
            have hq : (HL.el ids j == x) = false := by rw [beq_eq_false_iff_ne]; exact hy
            generalize HL.el ids j = y at *
            clear hy HV
            go_wp2
            refine wp_region_later (by kernel_rfl) (by kernel_rfl) ?_
            repeat (go_big_quiet_step (fail))
            refine wpQuiet_nil ?_
            intro W1 hw'
            obtain ⟨⟨wq, hq'⟩, hw''⟩ := hw'
            subst hw''
            have HB1 := Lib.hid (HBJ.out.trans (hq'.mono HBJ.out.size))
            clear q1 q2 hq hq'
            go_wp2
            go_roundw
            case rel => exact ⟨j, by omega, by simp, _, rfl, HVM, HB1⟩
            case measure => simp [intOf]
    · obtain rfl : i = N := by omega
      have hltI : ¬ (i : Int) < (i : Int) := by omega
      have HLF : Hid (l = CL.srt ((CL.nrm zs).map (CL.val ids ats))) := Lib.hid (by rw [HLL.out, List.take_of_length_le (by rw [HNN.out]; exact Nat.le_refl _)])
      obtain ⟨lp, lc, hlv⟩ := owns_slice HO.out.1
      rw [HLS.out] at hlv
      subst hlv
      have HRL := Lib.hid HO.out.rd.1
      by_cases h0 : i = 0
      · subst h0
        go_wp2
        go_ret
        exact ⟨by unfold CL.reached; rw [if_pos HNN.out]; rfl, HBW.out⟩
      · have hne : ((i : Int) == 0) = false := by rw [beq_eq_false_iff_ne]; omega
        have HQ := Lib.hid (ref_quorum (i : Int) wr (by omega))
        rw [quoZ_nat] at HQ
        have hq1 := CL.quo_le i
        have hq2 : 1 ≤ CL.quo i := by unfold CL.quo; rw [if_neg (by omega)]; omega
        have HRE : Hid (CL.reached zs ids ats = HL.el l (i - CL.quo i)) := Lib.hid (by
          unfold CL.reached
          rw [HNN.out, if_neg h0, ← HLF.out])
        obtain ⟨b6, o6, hp6, _, hcs6⟩ := HRL.out.2 (by omega)
        have hcell6 := hcs6 (i - CL.quo i) (by omega)
        clear hcs6
        subst hp6
        generalize hqq : CL.quo i = qq at *
        have e1 : IntKind.i64.wrap ((i : Int) - (qq : Int)) = ((i - qq : Nat) : Int) := by rw [IntWalk.i64_in _ ⟨by omega, by omega⟩]; omega
        generalize hy : HL.el l (i - qq) = y at *
        clear hy hqq h0
        go_wp2_with fail
        refine HQ.out.mono ?_
        rintro e w6 ⟨rfl, rfl⟩
        go_wp2
        go_ret
        exact ⟨by rw [HRE.out]; rfl, HBW.out⟩
end Go.Proofs.YtmfidemkmmbioaaGreat
