/- arboretumlaw17.ConfWins returns true, whatever its arguments. -/
import Derived.Test.YtmfidemkmmbioaaCAlive
namespace Go.Proofs.Ytmfidemkmmbioaa
open Go.RowKit

theorem won_valid {zs us : List Int} (h : CL.Valid zs) : CL.won zs us = decide (CL.quo zs.length ≤ CL.cnt zs us) := by
  have e := CL.nrm_of_up h.up
  rw [CL.won_iff (by rw [e]; exact h.1), e]

theorem below_drewN (w : World) (m B : Nat) (hB : B ≤ w.heap.size) : Below B w (w.drewN m) := ((Fr.refl (fun _ => False) _).drewN _).below hB (fun _ h => h.elim)

set_option maxHeartbeats 2000000 in
set_option maxRecDepth 100000 in
theorem confWins_walk (p q : Option Addr) (n c k d : Nat) (zs us : List Int) (x : Int) (w : World) (h : RdI w w.heap.size p n zs) (h2 : RdI w w.heap.size q k us) (hq0 : q = none → d = 0) :
    Calls Try.prog 6 #[.slice p n c, .slice q k d, .int .i64 x] w fun e w' => e = .returned (.bool true) ∧ Below w.heap.size w w' := by
  have HV := Lib.hid (valid_ints p n c _ zs w h)
  have HZ := Lib.hid h
  have HU := Lib.hid h2
  have HQ0 := Lib.hid hq0
  clear h h2 hq0
  go_enter Try.func6, Try.ntmps6
  go_wp2_with fail
  refine HV.out.mono ?_
  rintro e w1 ⟨bv, m, rfl, hv, hw1⟩
  have hb1 : Below w.heap.size w w1 := by rw [hw1]; exact below_drewN w m _ (Nat.le_refl _)
  have HB1 := Lib.hid hb1
  have HZ1 := Lib.hid ((HZ.out.below hb1).more hb1.size)
  have HU1 := Lib.hid ((HU.out.below hb1).more hb1.size)
  clear hb1 hw1 HV
  cases bv with
  | false =>
    clear hv
    go_wp2_with (go_at_call 8; refine (alive_true _).mono ?_; rintro e w' ⟨rfl, hb⟩)
    go_ret
    exact ⟨rfl, HB1.out.trans (hb.mono HB1.out.size)⟩
  | true =>
    have HVA := Lib.hid (hv.1 rfl)
    clear hv
    by_cases hk : 60 < k
    · go_wp2_with (go_at_call 8; refine (alive_true _).mono ?_; rintro e w' ⟨rfl, hb⟩)
      go_ret
      exact ⟨rfl, HB1.out.trans (hb.mono HB1.out.size)⟩
    · have hn9 : n ≤ 9 := by have := HVA.out.2.1; have := HZ.out.1; omega
      have hn1 : 1 ≤ n := by have := HVA.out.1; have := HZ.out.1; omega
      have HW1 := Lib.hid (won_ints p q n c k d zs us w1 HZ1.out HU1.out (by omega) (by omega))
      generalize hwa : CL.won zs us = wa at *
      have HWA := Lib.hid hwa
      clear hwa
      go_wp2_with fail
      refine HW1.out.mono ?_
      rintro e w2 ⟨rfl, hb2⟩
      have HZ2 := Lib.hid ((HZ1.out.below hb2).more hb2.size)
      have HU2 := Lib.hid ((HU1.out.below hb2).more hb2.size)
      have HB2 : Hid (Below w.heap.size w w2) := HB1.out.trans (hb2.mono HB1.out.size)
      clear hb2 HW1 HZ1 HU1 HB1
      go_wp2_with (first
        | (at_builtin; refine append_rd rfl _ _ rfl w2.heap.size (.slice none 0 0) 0 [] rfl (World.ownsRow_nil _ _ _ _) q k d us rfl HU2.out HQ0.out (by omega) (Nat.le_refl _) ?_; intro v3 w3 hown3 hgr3
           rw [Nat.zero_add, List.nil_append] at hown3
           obtain ⟨p3, c3, rfl⟩ := owns_slice hown3
           have HO3 := Lib.hid hown3
           have HB3 := Lib.hid ((Below.refl w2.heap.size w2).grown hgr3 (Nat.le_refl _) (fun k hk => by cases hk))
           clear hown3 hgr3)
        | (at_builtin; refine append_rd rfl _ _ rfl w2.heap.size (.slice p3 k c3) k (rowOf ncells us) rfl (HO3.out.alloc _) (some ⟨w3.heap.size, 0, none⟩) 1 1 [x] rfl (rd_new w3 [x] 3) (fun h => by cases h) (by omega) (by have := HB3.out.size; simp; omega) ?_; intro v4 w4 hown4 hgr4
           rw [← rowOf_append] at hown4
           obtain ⟨p4, c4, rfl⟩ := owns_slice hown4
           have HO4 := Lib.hid hown4
           have HB4 := Lib.hid ((HB3.out.alloc HB3.out.size (.cells #[.int .i64 x] 3)).grown hgr4 (by have := HB3.out.size; simp; omega) (fun k hk => (HO3.out.lt k hk).1))
           clear hown4 hgr4))
      have HR4 := Lib.hid (RdI.of_own HO4.out (by rw [List.length_append, HU.out.1]; rfl))
      have HZ4 := Lib.hid ((HZ2.out.below HB4.out).more HB4.out.size)
      have HU4 := Lib.hid ((HU2.out.below HB4.out).more HB4.out.size)
      have HBW4 : Hid (Below w.heap.size w w4) := HB2.out.trans (HB4.out.mono HB2.out.size)
      have HW2 := Lib.hid (won_ints p p4 n c (k + 1) c4 zs (us ++ [x]) w4 HZ4.out HR4.out (by omega) (by omega))
      generalize hwb : CL.won zs (us ++ [x]) = wb at *
      have HWB := Lib.hid hwb
      clear hwb HO3 HB3 HO4 HB4 HZ2 HU2 HB2
      refine HW2.out.mono ?_
      rintro e w5 ⟨rfl, hb5⟩
      have HZ5 := Lib.hid ((HZ4.out.below hb5).more hb5.size)
      have HU5 := Lib.hid ((HU4.out.below hb5).more hb5.size)
      have HB5 : Hid (Below w.heap.size w w5) := HBW4.out.trans (hb5.mono HBW4.out.size)
      clear hb5 HW2 HZ4 HU4 HBW4 HR4
      go_wp2
      go_loop [9, 10] (fun cv iv => ∃ i : Nat, i ≤ n ∧ iv = .int .i64 i ∧ ∃ t : Nat, t ≤ i ∧ cv = .int .i64 t ∧ t = CL.cnt (zs.take i) us) (fun _ iv => n - (intOf iv).toNat)
      case atStart => exact ⟨0, Nat.zero_le _, rfl, 0, Nat.le_refl _, rfl, by simp [CL.cnt]⟩
      case round =>
        obtain ⟨i, hi, rfl, t, hti, rfl, ht⟩ := hrel
        have HT := Lib.hid ht
        clear ht
        by_cases hlt : i < n
        · obtain ⟨b, o, hp, _, hcs⟩ := HZ5.out.2 (by omega)
          have hcell := hcs i hlt
          clear hcs
          subst hp
          have HCS := Lib.hid (CL.cnt_succ (l := zs) (us := us) (i := i) (by rw [HZ.out.1]; exact hlt))
          have HHAS := Lib.hid (has_ints q k d _ us (HL.el zs i) w5 HU5.out (by omega))
          generalize hx : HL.el zs i = y at *
          clear hx
          by_cases hm : y ∈ us
          · have hd : decide (y ∈ us) = true := by simpa using hm
            rw [hd] at HHAS
            rw [if_pos hm] at HCS
            clear hm hd
            go_wp2_with fail
            refine HHAS.out.mono ?_
            rintro e w6 ⟨rfl, rfl⟩
            go_wp2
            go_round
            case rel => exact ⟨i + 1, by omega, by go_num, t + 1, by omega, by go_num, by rw [HCS.out, HT.out]⟩
            case measure => simp [intOf]; omega
          · have hd : decide (y ∈ us) = false := by simpa using hm
            rw [hd] at HHAS
            rw [if_neg hm] at HCS
            clear hm hd
            go_wp2_with fail
            refine HHAS.out.mono ?_
            rintro e w6 ⟨rfl, rfl⟩
            go_wp2
            go_round
            case rel => exact ⟨i + 1, by omega, by go_num, t, by omega, rfl, by rw [HCS.out, HT.out]; rfl⟩
            case measure => simp [intOf]; omega
        · have hiN : i = n := by omega
          subst hiN
          have HC : Hid (t = CL.cnt zs us) := by
            have e := HT.out
            rw [List.take_of_length_le (by rw [HZ.out.1]; exact Nat.le_refl _)] at e
            exact e
          clear HT
          have HWA' : Hid (wa = decide (CL.quo i ≤ t)) := Lib.hid (by rw [← HWA.out, won_valid HVA.out, HC.out, HZ.out.1])
          have HAB : Hid (wa = true → wb = true) := Lib.hid (by
            intro e
            rw [← HWA.out, won_valid HVA.out] at e
            rw [← HWB.out, won_valid HVA.out]
            have e' : CL.quo zs.length ≤ CL.cnt zs us := by simpa using e
            have := CL.cnt_mono (a := zs) (v := us) (v' := us ++ [x]) (fun y hy => by simp [hy])
            simp
            omega)
          go_wp2_with fail
          refine (alive_true _).mono ?_
          rintro e w6 ⟨rfl, hb6⟩
          have HZ6 := Lib.hid ((HZ5.out.below hb6).more hb6.size)
          have HB6 : Hid (Below w.heap.size w w6) := HB5.out.trans (hb6.mono HB5.out.size)
          clear hb6 HZ5 HU5 HB5
          have HQ := Lib.hid (quorum_int i w6 (by omega))
          have hq1 := CL.quo_le i
          have hq2 := CL.quo_two (n := i) (by omega)
          have HWS : Hid (CL.won zs zs = true) := Lib.hid (by rw [won_valid HVA.out, CL.cnt_self]; simp; exact CL.quo_le _)
          have HWN : Hid (CL.won zs [] = false) := Lib.hid (by
            rw [won_valid HVA.out, CL.cnt_nil]
            have := CL.quo_two (n := zs.length) (by have := HVA.out.1; omega)
            simp; omega)
          have HQU := Lib.hid (CL.quo_le i)
          generalize hqq : CL.quo i = qq at *
          have HQE := Lib.hid hqq
          clear hqq
          cases wa with
          | true =>
            obtain rfl : wb = true := HAB.out rfl
            have hqt : qq ≤ t := by have := HWA'.out; simpa using this.symm
            go_wp2_with fail
            refine HQ.out.mono ?_
            rintro e w7 ⟨rfl, rfl⟩
            have HW3 := Lib.hid (won_ints p p i c i c zs zs w6 HZ6.out HZ6.out (by omega) (by omega))
            rw [HWS.out] at HW3
            go_wp2_with fail
            refine HW3.out.mono ?_
            rintro e w7 ⟨rfl, hb7⟩
            have HZ7 := Lib.hid ((HZ6.out.below hb7).more hb7.size)
            have HB7 : Hid (Below w.heap.size w w7) := HB6.out.trans (hb7.mono HB6.out.size)
            clear hb7 HW3 HB6 HZ6
            have HW4 := Lib.hid (won_ints p none i c 0 0 zs [] w7 HZ7.out ⟨rfl, fun h => by omega⟩ (by omega) (by omega))
            rw [HWN.out] at HW4
            go_wp2_with fail
            refine HW4.out.mono ?_
            rintro e w8 ⟨rfl, hb8⟩
            have HB8 : Hid (Below w.heap.size w w8) := HB7.out.trans (hb8.mono HB7.out.size)
            clear hb8 HW4 HB7 HZ7
            have HQ8 := Lib.hid (quorum_int i w8 (by omega))
            rw [HQE.out] at HQ8
            go_wp2_with fail
            refine HQ8.out.mono ?_
            rintro e w9 ⟨rfl, rfl⟩
            have e2 : IntKind.i64.wrap (2 * (qq : Int)) = 2 * (qq : Int) := IntWalk.i64_in _ ⟨by omega, by omega⟩
            have h2 : (i : Int) < 2 * (qq : Int) := by omega
            have HW5 := Lib.hid (won_ints none _ 0 0 1 1 [] [9] _ ⟨rfl, fun h => by omega⟩ (rd_new w8 [9] 3) (by omega) (by omega))
            have HWE : CL.won [] [9] = false := by
              unfold CL.won
              have : CL.nrm [] = [] := CL.nrm_of_up (by unfold CL.Up; exact List.Pairwise.nil)
              rw [this]
              rfl
            rw [HWE] at HW5
            clear HWE
            go_wp2_with fail
            refine HW5.out.mono ?_
            rintro e w9 ⟨rfl, hb9⟩
            have HB9 : Hid (Below w.heap.size w w9) := HB8.out.trans ((((Below.refl _ w8).alloc (Nat.le_refl _) _).trans (hb9.mono (by simp))).mono HB8.out.size)
            clear hb9 HW5 HB8
            go_wp2
            go_ret
            exact ⟨rfl, HB9.out⟩
          | false =>
            have hqt : t < qq := by have := HWA'.out; simpa using this.symm
            go_wp2_with fail
            refine HQ.out.mono ?_
            rintro e w7 ⟨rfl, rfl⟩
            have HW3 := Lib.hid (won_ints p p i c i c zs zs w6 HZ6.out HZ6.out (by omega) (by omega))
            rw [HWS.out] at HW3
            go_wp2_with fail
            refine HW3.out.mono ?_
            rintro e w7 ⟨rfl, hb7⟩
            have HZ7 := Lib.hid ((HZ6.out.below hb7).more hb7.size)
            have HB7 : Hid (Below w.heap.size w w7) := HB6.out.trans (hb7.mono HB6.out.size)
            clear hb7 HW3 HB6 HZ6
            have HW4 := Lib.hid (won_ints p none i c 0 0 zs [] w7 HZ7.out ⟨rfl, fun h => by omega⟩ (by omega) (by omega))
            rw [HWN.out] at HW4
            go_wp2_with fail
            refine HW4.out.mono ?_
            rintro e w8 ⟨rfl, hb8⟩
            have HB8 : Hid (Below w.heap.size w w8) := HB7.out.trans (hb8.mono HB7.out.size)
            clear hb8 HW4 HB7 HZ7
            have HQ8 := Lib.hid (quorum_int i w8 (by omega))
            rw [HQE.out] at HQ8
            go_wp2_with fail
            refine HQ8.out.mono ?_
            rintro e w9 ⟨rfl, rfl⟩
            have e2 : IntKind.i64.wrap (2 * (qq : Int)) = 2 * (qq : Int) := IntWalk.i64_in _ ⟨by omega, by omega⟩
            have h2 : (i : Int) < 2 * (qq : Int) := by omega
            have HW5 := Lib.hid (won_ints none _ 0 0 1 1 [] [9] _ ⟨rfl, fun h => by omega⟩ (rd_new w8 [9] 3) (by omega) (by omega))
            have HWE : CL.won [] [9] = false := by
              unfold CL.won
              have : CL.nrm [] = [] := CL.nrm_of_up (by unfold CL.Up; exact List.Pairwise.nil)
              rw [this]
              rfl
            rw [HWE] at HW5
            clear HWE
            go_wp2_with fail
            refine HW5.out.mono ?_
            rintro e w9 ⟨rfl, hb9⟩
            have HB9 : Hid (Below w.heap.size w w9) := HB8.out.trans ((((Below.refl _ w8).alloc (Nat.le_refl _) _).trans (hb9.mono (by simp))).mono HB8.out.size)
            clear hb9 HW5 HB8
            go_wp2
            go_ret
            exact ⟨by simp; exact hqt, HB9.out⟩
end Go.Proofs.Ytmfidemkmmbioaa
