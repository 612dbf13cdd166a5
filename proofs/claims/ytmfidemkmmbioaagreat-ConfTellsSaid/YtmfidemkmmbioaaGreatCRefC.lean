/- arboretumref16's Won, Near: what they answer. -/
import Derived.Test.YtmfidemkmmbioaaGreatCRefB
namespace Go.Proofs.YtmfidemkmmbioaaGreat
open Go.RowKit

set_option maxHeartbeats 4000000 in
set_option maxRecDepth 100000 in
theorem ref_won (p q : Option Addr) (n c k d : Nat) (zs us : List Int) (w : World) (h : RdI w w.heap.size p n zs) (h2 : RdI w w.heap.size q k us) (hn : n ≤ 1000) (hk : k ≤ 1000) :
    Calls Tryz.prog 19 #[.slice p n c, .slice q k d] w fun e w' => e = .returned (.bool (CL.won zs us)) ∧ Below w.heap.size w w' := by
  obtain ⟨N, hN⟩ : ∃ N, (CL.nrm zs).length = N := ⟨_, rfl⟩
  have hNn : N ≤ 1000 := by have := CL.nrm_length zs; have := h.1; omega
  have HNRM := Lib.hid (ref_norm p n c zs w h hn)
  have HU := Lib.hid h2
  have HNN := Lib.hid hN
  clear h h2 hN
  go_enter Tryz.func19, Tryz.ntmps19
  go_wp2_with fail
  refine HNRM.out.mono ?_
  rintro e w1 ⟨v, rfl, ho, hb⟩
  obtain ⟨g, cap, hv⟩ := owns_slice ho.1
  rw [HNN.out] at hv
  subst hv
  have HA := Lib.hid ho.rd.1
  have HB := Lib.hid hb
  have HU1 := Lib.hid ((HU.out.below hb).more hb.size)
  clear ho hb HNRM
  go_wp2
  go_loopw [5, 7] (fun cv iv wr => ∃ i : Nat, i ≤ N ∧ iv = .int .i64 i ∧ ∃ t : Nat, t ≤ i ∧ cv = .int .i64 t ∧ Hid (t = CL.cnt ((CL.nrm zs).take i) us) ∧ wr = w1) (fun _ iv _ => N - (intOf iv).toNat)
  case atStart => exact ⟨0, Nat.zero_le _, rfl, 0, Nat.le_refl _, rfl, Lib.hid (by simp [CL.cnt]), rfl⟩
  case round =>
    obtain ⟨i, hi, rfl, t, hti, rfl, HT, rfl⟩ := hrel
    by_cases hlt : i < N
    · have hltI : (i : Int) < (N : Int) := by omega
      obtain ⟨b, o, hp, _, hcs⟩ := HA.out.2 (by omega)
      have hcell := hcs i hlt
      clear hcs
      subst hp
      have HCS := Lib.hid (CL.cnt_succ (l := CL.nrm zs) (us := us) (i := i) (by rw [HNN.out]; exact hlt))
      have HHAS := Lib.hid (ref_has q k d _ us (HL.el (CL.nrm zs) i) wr HU1.out (by omega))
      generalize hx : HL.el (CL.nrm zs) i = x at *
      clear hx
      by_cases hm : x ∈ us
      · have hd : decide (x ∈ us) = true := by simpa using hm
        rw [hd] at HHAS
        rw [if_pos hm] at HCS
        clear hm hd
        go_wp2_with fail
        refine HHAS.out.mono ?_
        rintro e w2 ⟨rfl, rfl⟩
        go_wp2
        go_roundw
        case rel => exact ⟨i + 1, by omega, by go_num, t + 1, by omega, by go_num, Lib.hid (by rw [HCS.out, HT.out]), trivial⟩
        case measure => simp [intOf]; omega
      · have hd : decide (x ∈ us) = false := by simpa using hm
        rw [hd] at HHAS
        rw [if_neg hm] at HCS
        clear hm hd
        go_wp2_with fail
        refine HHAS.out.mono ?_
        rintro e w2 ⟨rfl, rfl⟩
        go_wp2
        go_roundw
        case rel => exact ⟨i + 1, by omega, by go_num, t, by omega, rfl, Lib.hid (by rw [HCS.out, HT.out]; rfl), trivial⟩
        case measure => simp [intOf]; omega
    · obtain rfl : i = N := by omega
      have hltI : ¬ (i : Int) < (i : Int) := by omega
      have HC : Hid (t = CL.cnt (CL.nrm zs) us) := by
        have e := HT.out
        rw [List.take_of_length_le (by rw [HNN.out]; exact Nat.le_refl _)] at e
        exact e
      clear HT
      have HW : Hid (CL.won zs us = (decide (0 < t) && decide (CL.quo i ≤ t))) := by
        have e : CL.won zs us = (decide (0 < CL.cnt (CL.nrm zs) us) && decide (CL.quo (CL.nrm zs).length ≤ CL.cnt (CL.nrm zs) us)) := rfl
        rw [← HC.out, HNN.out] at e
        exact e
      have HQ := Lib.hid (ref_quorum (i : Int) wr (by omega))
      rw [quoZ_nat] at HQ
      by_cases h0 : 0 < i
      · have h0I : (0 : Int) < (i : Int) := by omega
        have hq2 : 1 ≤ CL.quo i := by unfold CL.quo; rw [if_neg (by omega)]; omega
        go_wp2_with fail
        refine HQ.out.mono ?_
        rintro e w2 ⟨rfl, rfl⟩
        generalize hq : CL.quo i = qq at *
        clear hq
        have HFIN : Hid ((decide (0 < t) && decide (qq ≤ t)) = decide ((qq : Int) ≤ (t : Int))) := Lib.hid (by
          by_cases e : qq ≤ t
          · have : 0 < t := by omega
            simp [e, this]
          · simp [e])
        go_wp2
        go_ret
        exact ⟨by rw [HW.out, HFIN.out]; simp, HB.out⟩
      · have h0I : ¬ (0 : Int) < (i : Int) := by omega
        have ht0 : t = 0 := by omega
        have HFIN : Hid (CL.won zs us = false) := Lib.hid (by rw [HW.out, ht0]; rfl)
        clear ht0 HW
        go_wp2
        go_ret
        exact ⟨by rw [HFIN.out]; rfl, HB.out⟩

theorem filt_succ {l : List Int} {i : Nat} (f : Int → Bool) (h : i < l.length) : ((l.take (i + 1)).filter f).length = ((l.take i).filter f).length + (if f (HL.el l i) = true then 1 else 0) := by
  rw [CL.take_succ_el h, List.filter_append, List.length_append]
  congr 1
  by_cases e : f (HL.el l i) = true
  · simp [e]
  · simp [e]

set_option maxHeartbeats 8000000 in
set_option maxRecDepth 100000 in
theorem ref_near (p q : Option Addr) (n c m d : Nat) (zs us : List Int) (w : World) (h : RdI w w.heap.size p n zs) (h2 : RdI w w.heap.size q m us) (hn : n ≤ 1000) (hm : m ≤ 1000) :
    Calls Tryz.prog 23 #[.slice p n c, .slice q m d] w fun e w' => e = .returned (.bool (CL.near zs us)) ∧ Below w.heap.size w w' := by
  obtain ⟨N, hN⟩ : ∃ N, (CL.nrm zs).length = N := ⟨_, rfl⟩
  obtain ⟨M, hM⟩ : ∃ M, (CL.nrm us).length = M := ⟨_, rfl⟩
  have hNn : N ≤ 1000 := by have := CL.nrm_length zs; have := h.1; omega
  have hMm : M ≤ 1000 := by have := CL.nrm_length us; have := h2.1; omega
  have HNRM := Lib.hid (ref_norm p n c zs w h hn)
  have HU := Lib.hid h2
  have HNN := Lib.hid hN
  have HMM := Lib.hid hM
  clear h h2 hN hM
  go_enter Tryz.func23, Tryz.ntmps23
  go_wp2_with fail
  refine HNRM.out.mono ?_
  rintro e w1 ⟨v, rfl, ho, hb⟩
  obtain ⟨g, cap, hv⟩ := owns_slice ho.1
  rw [HNN.out] at hv
  subst hv
  have HA := Lib.hid ho.rd.1
  have HB := Lib.hid hb
  have HNR2 := Lib.hid (ref_norm q m d us w1 ((HU.out.below hb).more hb.size) hm)
  clear ho hb HNRM
  go_wp2_with fail
  refine HNR2.out.mono ?_
  rintro e w2 ⟨v, rfl, ho, hb⟩
  obtain ⟨g2, cap2, hv⟩ := owns_slice ho.1
  rw [HMM.out] at hv
  subst hv
  have HA2 := Lib.hid ho.rd.1
  have HA1 := Lib.hid ((HA.out.below hb).more hb.size)
  have HB2 : Hid (Below w.heap.size w w2) := HB.out.trans (hb.mono HB.out.size)
  clear ho hb HNR2 HA HB
  go_wp2
  go_loopw [7, 8] (fun cv iv wr => ∃ i : Nat, i ≤ N ∧ iv = .int .i64 i ∧ ∃ t : Nat, t ≤ i ∧ cv = .int .i64 t ∧ Hid (t = (((CL.nrm zs).take i).filter (fun x => !decide (x ∈ CL.nrm us))).length) ∧ wr = w2) (fun _ iv _ => N - (intOf iv).toNat)
  case atStart => exact ⟨0, Nat.zero_le _, rfl, 0, Nat.le_refl _, rfl, Lib.hid (by simp), rfl⟩
  case round =>
    obtain ⟨i, hi, rfl, t, hti, rfl, HT, rfl⟩ := hrel
    by_cases hlt : i < N
    · have hltI : (i : Int) < (N : Int) := by omega
      obtain ⟨b, o, hp, _, hcs⟩ := HA1.out.2 (by omega)
      have hcell := hcs i hlt
      clear hcs
      subst hp
      have HCS := Lib.hid (filt_succ (l := CL.nrm zs) (i := i) (fun x => !decide (x ∈ CL.nrm us)) (by rw [HNN.out]; exact hlt))
      have HHAS := Lib.hid (ref_has g2 M cap2 _ (CL.nrm us) (HL.el (CL.nrm zs) i) wr HA2.out (by omega))
      generalize hx : HL.el (CL.nrm zs) i = x at *
      clear hx
      cases hd : decide (x ∈ CL.nrm us)
      · rw [hd] at HHAS
        have HT2 : Hid (t + 1 = (((CL.nrm zs).take (i + 1)).filter (fun x => !decide (x ∈ CL.nrm us))).length) := Lib.hid (by rw [HCS.out, HT.out, hd]; rfl)
        clear hd HT HCS
        go_wp2_with fail
        refine HHAS.out.mono ?_
        rintro e w3 ⟨rfl, rfl⟩
        go_wp2
        go_roundw
        case rel => exact ⟨i + 1, by omega, by go_num, t + 1, by omega, by go_num, HT2, trivial⟩
        case measure => simp [intOf]; omega
      · rw [hd] at HHAS
        have HT2 : Hid (t = (((CL.nrm zs).take (i + 1)).filter (fun x => !decide (x ∈ CL.nrm us))).length) := Lib.hid (by rw [HCS.out, ← HT.out, hd]; rfl)
        clear hd HT HCS
        go_wp2_with fail
        refine HHAS.out.mono ?_
        rintro e w3 ⟨rfl, rfl⟩
        go_wp2
        go_roundw
        case rel => exact ⟨i + 1, by omega, by go_num, t, by omega, rfl, HT2, trivial⟩
        case measure => simp [intOf]; omega
    · obtain rfl : i = N := by omega
      have hltI : ¬ (i : Int) < (i : Int) := by omega
      obtain ⟨t0, ht0⟩ : ∃ t0, ((CL.nrm zs).filter (fun x => !decide (x ∈ CL.nrm us))).length = t0 := ⟨_, rfl⟩
      have HT0 : Hid (t = t0) := Lib.hid (by have e := HT.out; rw [List.take_of_length_le (by rw [HNN.out]; exact Nat.le_refl _), ht0] at e; exact e)
      have HT9 := Lib.hid ht0
      clear ht0 HT
      go_wp2
      go_loopw [7, 9] (fun cv iv wj => ∃ j : Nat, j ≤ M ∧ iv = .int .i64 j ∧ ∃ s : Nat, s ≤ j + t ∧ cv = .int .i64 s ∧ Hid (s = t + (((CL.nrm us).take j).filter (fun x => !decide (x ∈ CL.nrm zs))).length) ∧ wj = wr) (fun _ iv _ => M - (intOf iv).toNat)
      case atStart => exact ⟨0, Nat.zero_le _, rfl, t, by omega, rfl, Lib.hid (by simp), rfl⟩
      case round =>
        obtain ⟨j, hj, rfl, s, hsj, rfl, HS, rfl⟩ := hrel
        by_cases hlt2 : j < M
        · have hltJ : (j : Int) < (M : Int) := by omega
          obtain ⟨b, o, hp, _, hcs⟩ := HA2.out.2 (by omega)
          have hcell := hcs j hlt2
          clear hcs
          subst hp
          have HCS := Lib.hid (filt_succ (l := CL.nrm us) (i := j) (fun x => !decide (x ∈ CL.nrm zs)) (by rw [HMM.out]; exact hlt2))
          have HHAS := Lib.hid (ref_has g i cap _ (CL.nrm zs) (HL.el (CL.nrm us) j) wr HA1.out (by omega))
          generalize hx : HL.el (CL.nrm us) j = x at *
          clear hx
          cases hd : decide (x ∈ CL.nrm zs)
          · rw [hd] at HHAS
            have HT2 : Hid (s + 1 = t + (((CL.nrm us).take (j + 1)).filter (fun x => !decide (x ∈ CL.nrm zs))).length) := Lib.hid (by rw [HCS.out, HS.out, hd]; simp; omega)
            clear hd HS HCS
            go_wp2_with fail
            refine HHAS.out.mono ?_
            rintro e w3 ⟨rfl, rfl⟩
            go_wp2
            go_roundw
            case rel => exact ⟨j + 1, by omega, by go_num, s + 1, by omega, by go_num, HT2, trivial⟩
            case measure => simp [intOf]; omega
          · rw [hd] at HHAS
            have HT2 : Hid (s = t + (((CL.nrm us).take (j + 1)).filter (fun x => !decide (x ∈ CL.nrm zs))).length) := Lib.hid (by rw [HCS.out, hd]; have := HS.out; simp; omega)
            clear hd HS HCS
            go_wp2_with fail
            refine HHAS.out.mono ?_
            rintro e w3 ⟨rfl, rfl⟩
            go_wp2
            go_roundw
            case rel => exact ⟨j + 1, by omega, by go_num, s, by omega, rfl, HT2, trivial⟩
            case measure => simp [intOf]; omega
        · obtain rfl : j = M := by omega
          have hltJ : ¬ (j : Int) < (j : Int) := by omega
          have HFIN : Hid (CL.near zs us = ((s : Int) == 1)) := Lib.hid (by
            have e := HS.out
            rw [List.take_of_length_le (by rw [HMM.out]; exact Nat.le_refl _), HT0.out, ← HT9.out, ← CL.odd_two] at e
            unfold CL.near
            rw [← e]
            by_cases h1 : s = 1
            · simp [h1]
            · have : ((s : Int) == 1) = false := by rw [beq_eq_false_iff_ne]; omega
              rw [this]; simpa using h1)
          clear HS
          go_wp2
          go_ret
          exact ⟨by rw [HFIN.out]; simp, HB2.out⟩
end Go.Proofs.YtmfidemkmmbioaaGreat
