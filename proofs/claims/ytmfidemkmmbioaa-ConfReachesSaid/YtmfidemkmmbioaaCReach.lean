/- arboretumlaw17.ConfReaches returns true, whatever its arguments. -/
import Derived.Test.YtmfidemkmmbioaaCWins
namespace Go.Proofs.Ytmfidemkmmbioaa
open Go.RowKit

namespace CL
/-- What the i-th member is at. -/
def at0 (ats : List Int) (i : Nat) : Int := if i < ats.length then HL.el ats i else 0
def atsOf (n : Nat) (ats : List Int) : List Int := (List.range n).map (at0 ats)

theorem val_self {zs ats : List Int} (hu : Up zs) {i : Nat} (hi : i < zs.length) : val zs ats (HL.el zs i) = at0 ats i := by
  have hf : zs.findIdx (· == HL.el zs i) = i := findIdx_first hi rfl (fun j hj e => by
    have h1 := HL.el_eq zs i hi
    have h2 := HL.el_eq zs j (by omega)
    rw [List.getElem?_eq_getElem hi] at h1
    rw [List.getElem?_eq_getElem (by omega)] at h2
    injection h1 with h1
    injection h2 with h2
    have := List.pairwise_iff_getElem.1 hu j i (by omega) hi hj
    rw [h1, h2] at this
    omega)
  unfold val at0
  rw [hf]
  simp [hi]

theorem map_val {zs ats : List Int} (hu : Up zs) : zs.map (val zs ats) = atsOf zs.length ats := by
  apply List.ext_getElem
  · simp [atsOf]
  · intro i h1 h2
    have hi : i < zs.length := by simpa using h1
    have h3 := HL.el_eq zs i hi
    rw [List.getElem?_eq_getElem hi] at h3
    injection h3 with h3
    rw [List.getElem_map, h3, val_self hu hi]
    simp [atsOf]

theorem atsOf_length (n : Nat) (ats : List Int) : (atsOf n ats).length = n := by simp [atsOf]
theorem atsOf_succ (n : Nat) (ats : List Int) : atsOf (n + 1) ats = atsOf n ats ++ [at0 ats n] := by simp [atsOf, List.range_succ]

def ge (x : Int) (l : List Int) : Nat := (l.filter (fun v => decide (x ≤ v))).length
def gt (x : Int) (l : List Int) : Nat := (l.filter (fun v => decide (x < v))).length
theorem ge_snoc (x y : Int) (l : List Int) : ge x (l ++ [y]) = ge x l + (if x ≤ y then 1 else 0) := by
  unfold ge; rw [List.filter_append, List.length_append]; congr 1; by_cases h : x ≤ y <;> simp [h]
theorem gt_snoc (x y : Int) (l : List Int) : gt x (l ++ [y]) = gt x l + (if x < y then 1 else 0) := by
  unfold gt; rw [List.filter_append, List.length_append]; congr 1; by_cases h : x < y <;> simp [h]

theorem reach_law {zs ats : List Int} (hv : Valid zs) : quo zs.length ≤ ge (reached zs zs ats) (atsOf zs.length ats) ∧ gt (reached zs zs ats) (atsOf zs.length ats) < quo zs.length := by
  have hn := nrm_of_up hv.up
  have h1 := hv.1
  have hq : 1 ≤ quo zs.length := by unfold quo; rw [if_neg (by omega)]; omega
  have hq2 := quo_le zs.length
  have hx : (srt (atsOf zs.length ats))[(atsOf zs.length ats).length - quo zs.length]? = some (reached zs zs ats) := by
    unfold reached
    rw [hn, if_neg (by omega), map_val hv.up, atsOf_length]
    exact HL.el_eq _ _ (by rw [srt_length, atsOf_length]; omega)
  exact ⟨stat_ge (by rw [atsOf_length]; exact hq2) hx, stat_gt hq (by rw [atsOf_length]; exact hq2) hx⟩
end CL

set_option maxHeartbeats 2000000 in
set_option maxRecDepth 100000 in
theorem confReaches_walk (p q : Option Addr) (n c k d : Nat) (zs us : List Int) (w : World) (h : RdI w w.heap.size p n zs) (h2 : RdI w w.heap.size q k us) :
    Calls Try.prog 4 #[.slice p n c, .slice q k d] w fun e w' => e = .returned (.bool true) ∧ Below w.heap.size w w' := by
  have HV := Lib.hid (valid_ints p n c _ zs w h)
  have HZ := Lib.hid h
  have HU := Lib.hid h2
  clear h h2
  go_enter Try.func4, Try.ntmps4
  go_wp2_with fail
  refine HV.out.mono ?_
  rintro e w1 ⟨bv, m, rfl, hv, hw1⟩
  have hb1 : Below w.heap.size w w1 := by rw [hw1]; exact below_drewN w m _ (Nat.le_refl _)
  have HB1 := Lib.hid hb1
  have HZ1 := Lib.hid ((HZ.out.below hb1).more hb1.size)
  have HU1 := Lib.hid ((HU.out.below hb1).more hb1.size)
  clear hb1 hw1 HV
  cases bv with
  | false =>
    clear hv
    go_wp2_with (go_at_call 8; refine (alive_true _).mono ?_; rintro e w' ⟨rfl, hb⟩)
    go_ret
    exact ⟨rfl, HB1.out.trans (hb.mono HB1.out.size)⟩
  | true =>
    have HVA := Lib.hid (hv.1 rfl)
    clear hv
    by_cases hk : 60 < k
    · go_wp2_with (go_at_call 8; refine (alive_true _).mono ?_; rintro e w' ⟨rfl, hb⟩)
      go_ret
      exact ⟨rfl, HB1.out.trans (hb.mono HB1.out.size)⟩
    · have hn9 : n ≤ 9 := by have := HVA.out.2.1; have := HZ.out.1; omega
      have hn1 : 1 ≤ n := by have := HVA.out.1; have := HZ.out.1; omega
      have HRE := Lib.hid (reached_ints p p q n c n c k d zs zs us w1 HZ1.out HZ1.out HU1.out (by omega) (by omega) (by omega))
      have HLAW := Lib.hid (CL.reach_law (ats := us) HVA.out)
      rw [HZ.out.1] at HLAW
      generalize hx : CL.reached zs zs us = x at *
      clear hx
      go_wp2_with fail
      refine HRE.out.mono ?_
      rintro e w2 ⟨rfl, hb2⟩
      have HZ2 := Lib.hid ((HZ1.out.below hb2).more hb2.size)
      have HU2 := Lib.hid ((HU1.out.below hb2).more hb2.size)
      have HB2 : Hid (Below w.heap.size w w2) := HB1.out.trans (hb2.mono HB1.out.size)
      clear hb2 HRE HZ1 HU1 HB1
      go_wp2
      go_loop [6, 7, 8, 9] (fun av bv iv _ => ∃ i : Nat, i ≤ n ∧ iv = .int .i64 i ∧ ∃ s t : Nat, s ≤ i ∧ t ≤ i ∧ av = .int .i64 s ∧ bv = .int .i64 t ∧ s = CL.ge x (CL.atsOf i us) ∧ t = CL.gt x (CL.atsOf i us)) (fun _ _ iv _ => n - (intOf iv).toNat)
      case atStart => exact ⟨0, Nat.zero_le _, rfl, 0, 0, Nat.le_refl _, Nat.le_refl _, rfl, rfl, by simp [CL.ge, CL.atsOf], by simp [CL.gt, CL.atsOf]⟩
      case round =>
        obtain ⟨i, hi, rfl, s, t, hsi, hti, rfl, rfl, hs, ht⟩ := hrel
        have HS := Lib.hid hs
        have HT := Lib.hid ht
        clear hs ht
        by_cases hlt : i < n
        · have HGE := Lib.hid (CL.ge_snoc x (CL.at0 us i) (CL.atsOf i us))
          have HGT := Lib.hid (CL.gt_snoc x (CL.at0 us i) (CL.atsOf i us))
          rw [← CL.atsOf_succ] at HGE HGT
          have fin : ∀ (y : Int), CL.at0 us i = y → (∃ i_1 : Nat, i_1 ≤ n ∧ Value.int .i64 ((i : Int) + 1) = .int .i64 i_1 ∧ ∃ s_1 t_1 : Nat, s_1 ≤ i_1 ∧ t_1 ≤ i_1 ∧ Value.int .i64 ((s : Int) + (if x ≤ y then 1 else 0)) = .int .i64 s_1 ∧ Value.int .i64 ((t : Int) + (if x < y then 1 else 0)) = .int .i64 t_1 ∧ s_1 = CL.ge x (CL.atsOf i_1 us) ∧ t_1 = CL.gt x (CL.atsOf i_1 us)) := by
            intro y hy
            have h1 := HGE.out
            have h2 := HGT.out
            rw [hy] at h1 h2
            have h3 := HS.out
            have h4 := HT.out
            refine ⟨i + 1, by omega, by simp, s + (if x ≤ y then 1 else 0), t + (if x < y then 1 else 0), by split <;> omega, by split <;> omega, ?_, ?_, by rw [h1, h3], by rw [h2, h4]⟩
            · split <;> simp
            · split <;> simp
          have FIN := Lib.hid fin
          clear fin
          by_cases hik : i < k
          · obtain ⟨b, o, hp, _, hcs⟩ := HU2.out.2 (by omega)
            have hcell := hcs i hik
            clear hcs
            subst hp
            have HY : Hid (CL.at0 us i = HL.el us i) := Lib.hid (by unfold CL.at0; rw [if_pos (by rw [HU.out.1]; exact hik)])
            generalize HL.el us i = y at *
            have F := FIN.out y HY.out
            clear FIN
            by_cases c1 : x ≤ y
            · rw [if_pos c1] at F
              by_cases c2 : x < y
              · rw [if_pos c2] at F
                have FF := Lib.hid F
                clear F
                go_wp2
                go_round
                case rel => exact FF.out
                case measure => simp [intOf]; omega
              · rw [if_neg c2] at F
                have FF := Lib.hid F
                clear F
                go_wp2
                go_round
                case rel => simpa using FF.out
                case measure => simp [intOf]; omega
            · rw [if_neg c1, if_neg (by omega)] at F
              have FF := Lib.hid F
              clear F
              go_wp2
              go_round
              case rel => simpa using FF.out
              case measure => simp [intOf]; omega
          · have F := FIN.out 0 (by unfold CL.at0; rw [if_neg (by rw [HU.out.1]; exact hik)])
            clear FIN
            by_cases c1 : x ≤ 0
            · rw [if_pos c1] at F
              by_cases c2 : x < 0
              · rw [if_pos c2] at F
                have FF := Lib.hid F
                clear F
                go_wp2
                go_round
                case rel => exact FF.out
                case measure => simp [intOf]; omega
              · rw [if_neg c2] at F
                have FF := Lib.hid F
                clear F
                go_wp2
                go_round
                case rel => simpa using FF.out
                case measure => simp [intOf]; omega
            · rw [if_neg c1, if_neg (by omega)] at F
              have FF := Lib.hid F
              clear F
              go_wp2
              go_round
              case rel => simpa using FF.out
              case measure => simp [intOf]; omega
        · have hiN : i = n := by omega
          subst hiN
          have HL1 : Hid (CL.quo i ≤ s ∧ t < CL.quo i) := by
            have h3 := HS.out
            have h4 := HT.out
            rw [h3, h4]
            exact HLAW.out
          go_wp2_with fail
          refine (alive_true _).mono ?_
          rintro e w3 ⟨rfl, hb3⟩
          have HB3 : Hid (Below w.heap.size w w3) := HB2.out.trans (hb3.mono HB2.out.size)
          have HQ := Lib.hid (quorum_int i w3 (by omega))
          clear hb3 HS HT HLAW
          have hq1 := HL1.out.1
          have hq2 := HL1.out.2
          clear HL1
          generalize CL.quo i = qq at *
          go_wp2_with fail
          refine HQ.out.mono ?_
          rintro e w4 ⟨rfl, rfl⟩
          go_wp2_with fail
          refine HQ.out.mono ?_
          rintro e w4 ⟨rfl, rfl⟩
          go_wp2
          go_ret
          exact ⟨by simp, HB3.out⟩
end Go.Proofs.Ytmfidemkmmbioaa
