/- arboretumlaw17.ConfMeets returns true, whatever its arguments. -/
import Derived.Test.YtmfidemkmmbioaaCMeetL
import Derived.Test.YtmfidemkmmbioaaCWins
import Derived.Test.YtmfidemkmmbioaaSame
namespace Go.Proofs.Ytmfidemkmmbioaa
open Go.RowKit

set_option maxHeartbeats 4000000 in
set_option maxRecDepth 100000 in
theorem confMeets_walk (p q r : Option Addr) (n c k d j f : Nat) (zs us vs : List Int) (add : Bool) (id : Int) (w : World) (h : RdI w w.heap.size p n zs) (h2 : RdI w w.heap.size q k us) (h3 : RdI w w.heap.size r j vs) (hp0 : p = none → c = 0) :
    Calls Try.prog 3 #[.slice p n c, .bool add, .int .i64 id, .slice q k d, .slice r j f] w fun e w' => e = .returned (.bool true) ∧ Below w.heap.size w w' := by
  have HV := Lib.hid (valid_ints p n c _ zs w h)
  have HZ := Lib.hid h
  have HU := Lib.hid h2
  have HT := Lib.hid h3
  have HP0 := Lib.hid hp0
  clear h h2 h3 hp0
  go_enter Try.func3, Try.ntmps3
  go_wp2_with fail
  refine HV.out.mono ?_
  rintro e w1 ⟨bv, m, rfl, hv, hw1⟩
  have hb1 : Below w.heap.size w w1 := by rw [hw1]; exact below_drewN w m _ (Nat.le_refl _)
  have HB1 := Lib.hid hb1
  have HZ1 := Lib.hid ((HZ.out.below hb1).more hb1.size)
  have HU1 := Lib.hid ((HU.out.below hb1).more hb1.size)
  have HT1 := Lib.hid ((HT.out.below hb1).more hb1.size)
  clear hb1 hw1 HV
  cases bv with
  | false =>
    clear hv
    go_wp2_with (go_at_call 8; refine (alive_true _).mono ?_; rintro e w' ⟨rfl, hb⟩)
    go_ret
    exact ⟨rfl, HB1.out.trans (hb.mono HB1.out.size)⟩
  | true =>
    have HVA := Lib.hid (hv.1 rfl)
    clear hv
    by_cases hk : 60 < k
    · go_wp2_with (go_at_call 8; refine (alive_true _).mono ?_; rintro e w' ⟨rfl, hb⟩)
      go_ret
      exact ⟨rfl, HB1.out.trans (hb.mono HB1.out.size)⟩
    · by_cases hj : 60 < j
      · go_wp2_with (go_at_call 8; refine (alive_true _).mono ?_; rintro e w' ⟨rfl, hb⟩)
        go_ret
        exact ⟨rfl, HB1.out.trans (hb.mono HB1.out.size)⟩
      · have hn9 : n ≤ 9 := by have := HVA.out.2.1; have := HZ.out.1; omega
        have hn1 : 1 ≤ n := by have := HVA.out.1; have := HZ.out.1; omega
        have HCH := Lib.hid (change_ints p n c zs add id w1 HZ1.out (by omega))
        go_wp2_with fail
        refine HCH.out.mono ?_
        rintro e w2 ⟨v, code, rfl, hb2, hcase⟩
        have HZ2 := Lib.hid ((HZ1.out.below hb2).more hb2.size)
        have HU2 := Lib.hid ((HU1.out.below hb2).more hb2.size)
        have HT2 := Lib.hid ((HT1.out.below hb2).more hb2.size)
        have HB2 : Hid (Below w.heap.size w w2) := HB1.out.trans (hb2.mono HB1.out.size)
        have HS1 := Lib.hid HB1.out.size
        have HS2 := Lib.hid hb2.size
        clear hb2 HCH HZ1 HU1 HT1
        rcases hcase with ⟨hc, hne, rfl⟩ | ⟨l, N, g, gc, hc, hN, rfl, rfl, hg0, ho⟩
        · have hne' : (code != 0) = true := by simpa using hne
          clear hne
          have HNA := Lib.hid HZ2.out
          have HMEET : Hid (CL.won zs us = true → CL.won zs vs = true → ∃ x, x ∈ us ∧ x ∈ vs ∧ x ∈ zs) := Lib.hid (fun ha hb => CL.meet HVA.out.up HVA.out.up (by have := HVA.out.1; omega) (by have := HVA.out.1; omega) (.inl rfl) ha hb)
          have HWA := Lib.hid (won_ints p q n c k d zs us w2 HZ2.out HU2.out (by omega) (by omega))
          generalize hwa : CL.won zs us = wa at *
          clear hwa
          go_wp2_with fail
          refine HWA.out.mono ?_
          rintro e wt ⟨rfl, hbt⟩
          have HZt := Lib.hid ((HZ2.out.below hbt).more hbt.size)
          have HUt := Lib.hid ((HU2.out.below hbt).more hbt.size)
          have HTt := Lib.hid ((HT2.out.below hbt).more hbt.size)
          have HNt := Lib.hid ((HNA.out.below hbt).more hbt.size)
          have HBt : Hid (Below w.heap.size w wt) := HB2.out.trans (hbt.mono HB2.out.size)
          clear hbt HWA
          cases wa with
          | false =>
            go_wp2_with (go_at_call 8; refine (alive_true _).mono ?_; rintro e w' ⟨rfl, hb⟩)
            go_ret
            exact ⟨rfl, HBt.out.trans (hb.mono HBt.out.size)⟩
          | true =>
            have HWB := Lib.hid (won_ints p r n c j f zs vs wt HNt.out HTt.out (by omega) (by omega))
            generalize hwb : CL.won zs vs = wb at *
            clear hwb
            go_wp2_with fail
            refine HWB.out.mono ?_
            rintro e wu ⟨rfl, hbu⟩
            have HZu := Lib.hid ((HZt.out.below hbu).more hbu.size)
            have HUu := Lib.hid ((HUt.out.below hbu).more hbu.size)
            have HTu := Lib.hid ((HTt.out.below hbu).more hbu.size)
            have HBu : Hid (Below w.heap.size w wu) := HBt.out.trans (hbu.mono HBt.out.size)
            clear hbu HWB HZt HUt HTt HNt HBt
            cases wb with
            | false =>
              go_wp2_with (go_at_call 8; refine (alive_true _).mono ?_; rintro e w' ⟨rfl, hb⟩)
              go_ret
              exact ⟨rfl, HBu.out.trans (hb.mono HBu.out.size)⟩
            | true =>
              have HEX := Lib.hid (HMEET.out (by first | trivial | rfl) (by first | trivial | rfl))
              clear HMEET
              go_wp2
              go_loop [15] (fun iv => ∃ i : Nat, i ≤ k ∧ iv = .int .i64 i ∧ ∀ t, t < i → ¬ (HL.el us t ∈ vs ∧ HL.el us t ∈ zs)) (fun iv => k - (intOf iv).toNat)
              case atStart => exact ⟨0, Nat.zero_le _, rfl, fun t ht => by omega⟩
              case round =>
                obtain ⟨i, hi, rfl, hno⟩ := hrel
                have HNO := Lib.hid hno
                clear hno
                by_cases hlt : i < k
                · obtain ⟨b, o, hp, _, hcs⟩ := HUu.out.2 (by omega)
                  have hcell := hcs i hlt
                  clear hcs
                  subst hp
                  have HH1 := Lib.hid (has_ints r j f _ vs (HL.el us i) wu HTu.out (by omega))
                  have HH2 := Lib.hid (has_ints p n c _ zs (HL.el us i) wu HZu.out (by omega))
                  have HSTEP : Hid (¬ (HL.el us i ∈ vs ∧ HL.el us i ∈ zs) → ∀ t, t < i + 1 → ¬ (HL.el us t ∈ vs ∧ HL.el us t ∈ zs)) := Lib.hid (by
                    intro h0 t ht
                    by_cases e : t = i
                    · subst e; exact h0
                    · exact HNO.out t (by omega))
                  generalize HL.el us i = y at *
                  by_cases m1 : y ∈ vs
                  · have d1 : decide (y ∈ vs) = true := by simpa using m1
                    rw [d1] at HH1
                    by_cases m2 : y ∈ zs
                    · have d2 : decide (y ∈ zs) = true := by simpa using m2
                      rw [d2] at HH2
                      clear m1 m2 d1 d2 HSTEP
                      go_wp2_with fail
                      refine HH1.out.mono ?_
                      rintro e w8 ⟨rfl, rfl⟩
                      go_wp2_with fail
                      refine HH2.out.mono ?_
                      rintro e w8 ⟨rfl, rfl⟩
                      go_wp2_with (go_at_call 8; refine (alive_true _).mono ?_; rintro e w' ⟨rfl, hb⟩)
                      go_ret
                      exact ⟨rfl, HBu.out.trans (hb.mono HBu.out.size)⟩
                    · have d2 : decide (y ∈ zs) = false := by simpa using m2
                      rw [d2] at HH2
                      have HST := Lib.hid (HSTEP.out (fun h => m2 h.2))
                      clear m1 m2 d1 d2 HSTEP
                      go_wp2_with fail
                      refine HH1.out.mono ?_
                      rintro e w8 ⟨rfl, rfl⟩
                      go_wp2_with fail
                      refine HH2.out.mono ?_
                      rintro e w8 ⟨rfl, rfl⟩
                      go_wp2
                      go_round
                      case rel => exact ⟨i + 1, by omega, by go_num, HST.out⟩
                      case measure => simp [intOf]; omega
                  · have d1 : decide (y ∈ vs) = false := by simpa using m1
                    rw [d1] at HH1
                    have HST := Lib.hid (HSTEP.out (fun h => m1 h.1))
                    clear m1 d1 HSTEP
                    go_wp2_with fail
                    refine HH1.out.mono ?_
                    rintro e w8 ⟨rfl, rfl⟩
                    go_wp2
                    go_round
                    case rel => exact ⟨i + 1, by omega, by go_num, HST.out⟩
                    case measure => simp [intOf]; omega
                · exfalso
                  obtain ⟨x, x1, x2, x3⟩ := HEX.out
                  obtain ⟨t, ht, e⟩ := List.getElem_of_mem x1
                  have he := HL.el_eq us t ht
                  rw [List.getElem?_eq_getElem ht] at he
                  injection he with he
                  rw [he] at e
                  refine HNO.out t (by have := HU.out.1; omega) ?_
                  rw [e]
                  exact ⟨x2, x3⟩
        · have HC := Lib.hid (CL.change_law HVA.out hc)
          have HLN := Lib.hid hN
          have HN2 := Lib.hid (RdI.of_own ho hN)
          have HG0 := Lib.hid hg0
          have hN9 : N ≤ 9 := by have := HC.out.1.2.1; omega
          clear ho hN hg0 hc
          have HCB := Lib.hid (change_ints g N gc l (!add) id w2 HN2.out (by omega))
          go_wp2_with fail
          refine HCB.out.mono ?_
          rintro e w3 ⟨v3, code3, rfl, hb3, hcase3⟩
          have HZ3 := Lib.hid ((HZ2.out.below hb3).more hb3.size)
          have HU3 := Lib.hid ((HU2.out.below hb3).more hb3.size)
          have HT3 := Lib.hid ((HT2.out.below hb3).more hb3.size)
          have HN3 := Lib.hid ((HN2.out.below hb3).more hb3.size)
          have HB3 : Hid (Below w.heap.size w w3) := HB2.out.trans (hb3.mono HB2.out.size)
          clear hb3 HCB HZ2 HU2 HT2 HN2 HB2
          rcases hcase3 with ⟨hc3, _, _⟩ | ⟨l3, N3, g3, c3, hc3, hl3, rfl, rfl, _, ho3⟩
          · rw [HC.out.2.2.2.1] at hc3; cases hc3
          rw [HC.out.2.2.2.1] at hc3
          injection hc3 with hc3
          subst hc3
          have hNe : N3 = n := by rw [← hl3, HZ.out.1]
          subst hNe
          have HK3 := Lib.hid (RdI.of_own ho3 hl3)
          clear ho3 hl3
          have HE1 := Lib.hid (near_ints p g N3 c N gc zs l w3 HZ3.out HN3.out HP0.out HG0.out (by omega) (by omega))
          rw [HC.out.2.1] at HE1
          go_wp2_with fail
          refine HE1.out.mono ?_
          rintro e w4 ⟨rfl, hb4⟩
          have HZ4 := Lib.hid ((HZ3.out.below hb4).more hb4.size)
          have HU4 := Lib.hid ((HU3.out.below hb4).more hb4.size)
          have HT4 := Lib.hid ((HT3.out.below hb4).more hb4.size)
          have HN4 := Lib.hid ((HN3.out.below hb4).more hb4.size)
          have HK4 := Lib.hid ((HK3.out.below hb4).more hb4.size)
          have HB4 : Hid (Below w.heap.size w w4) := HB3.out.trans (hb4.mono HB3.out.size)
          clear hb4 HE1 HZ3 HU3 HT3 HN3 HK3 HB3
          have HE2 := Lib.hid (near_ints g p N gc N3 c l zs w4 HN4.out HZ4.out HG0.out HP0.out (by omega) (by omega))
          rw [HC.out.2.2.1] at HE2
          go_wp2_with fail
          refine HE2.out.mono ?_
          rintro e w5 ⟨rfl, hb5⟩
          have HZ5 := Lib.hid ((HZ4.out.below hb5).more hb5.size)
          have HU5 := Lib.hid ((HU4.out.below hb5).more hb5.size)
          have HT5 := Lib.hid ((HT4.out.below hb5).more hb5.size)
          have HN5 := Lib.hid ((HN4.out.below hb5).more hb5.size)
          have HK5 := Lib.hid ((HK4.out.below hb5).more hb5.size)
          have HB5 : Hid (Below w.heap.size w w5) := HB4.out.trans (hb5.mono HB4.out.size)
          clear hb5 HE2 HZ4 HU4 HT4 HN4 HK4 HB4
          have HSM := Lib.hid (same_ints g3 p N3 c3 N3 c zs zs w5 _ _ HK5.out HZ5.out (by omega) (by omega))
          go_wp2_with fail
          refine HSM.out.mono ?_
          rintro e w6 ⟨b6, m6, rfl, hb6, hw6⟩
          obtain rfl : b6 = true := hb6.2 rfl
          have hd6 : Below w5.heap.size w5 w6 := by rw [hw6]; exact below_drewN w5 m6 _ (Nat.le_refl _)
          have HZ6 := Lib.hid ((HZ5.out.below hd6).more hd6.size)
          have HU6 := Lib.hid ((HU5.out.below hd6).more hd6.size)
          have HT6 := Lib.hid ((HT5.out.below hd6).more hd6.size)
          have HN6 := Lib.hid ((HN5.out.below hd6).more hd6.size)
          have HB6 : Hid (Below w.heap.size w w6) := HB5.out.trans (hd6.mono HB5.out.size)
          clear hb6 hw6 hd6 HSM HZ5 HU5 HT5 HN5 HK5 HB5
          have HV2 := Lib.hid (valid_ints g N gc _ l w6 HN6.out)
          go_wp2_with fail
          refine HV2.out.mono ?_
          rintro e w7 ⟨b7, m7, rfl, hb7, hw7⟩
          obtain rfl : b7 = true := hb7.2 HC.out.1
          have hd7 : Below w6.heap.size w6 w7 := by rw [hw7]; exact below_drewN w6 m7 _ (Nat.le_refl _)
          have HZ7 := Lib.hid ((HZ6.out.below hd7).more hd7.size)
          have HU7 := Lib.hid ((HU6.out.below hd7).more hd7.size)
          have HT7 := Lib.hid ((HT6.out.below hd7).more hd7.size)
          have HN7 := Lib.hid ((HN6.out.below hd7).more hd7.size)
          have HB7 : Hid (Below w.heap.size w w7) := HB6.out.trans (hd7.mono HB6.out.size)
          clear hb7 hw7 hd7 HV2 HZ6 HU6 HT6 HN6 HB6
          have HMEET : Hid (CL.won zs us = true → CL.won l vs = true → ∃ x, x ∈ us ∧ x ∈ vs ∧ x ∈ zs) := Lib.hid (fun ha hb => CL.meet HVA.out.up HC.out.1.up (by have := HVA.out.1; omega) (by have := HC.out.1.1; omega) (.inr HC.out.2.2.2.2) ha hb)
          have HWA := Lib.hid (won_ints p q N3 c k d zs us w7 HZ7.out HU7.out (by omega) (by omega))
          generalize hwa : CL.won zs us = wa at *
          clear hwa
          go_wp2_with fail
          refine HWA.out.mono ?_
          rintro e wt ⟨rfl, hbt⟩
          have HZt := Lib.hid ((HZ7.out.below hbt).more hbt.size)
          have HUt := Lib.hid ((HU7.out.below hbt).more hbt.size)
          have HTt := Lib.hid ((HT7.out.below hbt).more hbt.size)
          have HNt := Lib.hid ((HN7.out.below hbt).more hbt.size)
          have HBt : Hid (Below w.heap.size w wt) := HB7.out.trans (hbt.mono HB7.out.size)
          clear hbt HWA
          cases wa with
          | false =>
            go_wp2_with (go_at_call 8; refine (alive_true _).mono ?_; rintro e w' ⟨rfl, hb⟩)
            go_ret
            exact ⟨rfl, HBt.out.trans (hb.mono HBt.out.size)⟩
          | true =>
            have HWB := Lib.hid (won_ints g r N gc j f l vs wt HNt.out HTt.out (by omega) (by omega))
            generalize hwb : CL.won l vs = wb at *
            clear hwb
            go_wp2_with fail
            refine HWB.out.mono ?_
            rintro e wu ⟨rfl, hbu⟩
            have HZu := Lib.hid ((HZt.out.below hbu).more hbu.size)
            have HUu := Lib.hid ((HUt.out.below hbu).more hbu.size)
            have HTu := Lib.hid ((HTt.out.below hbu).more hbu.size)
            have HBu : Hid (Below w.heap.size w wu) := HBt.out.trans (hbu.mono HBt.out.size)
            clear hbu HWB HZt HUt HTt HNt HBt
            cases wb with
            | false =>
              go_wp2_with (go_at_call 8; refine (alive_true _).mono ?_; rintro e w' ⟨rfl, hb⟩)
              go_ret
              exact ⟨rfl, HBu.out.trans (hb.mono HBu.out.size)⟩
            | true =>
              have HEX := Lib.hid (HMEET.out (by first | trivial | rfl) (by first | trivial | rfl))
              clear HMEET
              go_wp2
              go_loop [15] (fun iv => ∃ i : Nat, i ≤ k ∧ iv = .int .i64 i ∧ ∀ t, t < i → ¬ (HL.el us t ∈ vs ∧ HL.el us t ∈ zs)) (fun iv => k - (intOf iv).toNat)
              case atStart => exact ⟨0, Nat.zero_le _, rfl, fun t ht => by omega⟩
              case round =>
                obtain ⟨i, hi, rfl, hno⟩ := hrel
                have HNO := Lib.hid hno
                clear hno
                by_cases hlt : i < k
                · obtain ⟨b, o, hp, _, hcs⟩ := HUu.out.2 (by omega)
                  have hcell := hcs i hlt
                  clear hcs
                  subst hp
                  have HH1 := Lib.hid (has_ints r j f _ vs (HL.el us i) wu HTu.out (by omega))
                  have HH2 := Lib.hid (has_ints p N3 c _ zs (HL.el us i) wu HZu.out (by omega))
                  have HSTEP : Hid (¬ (HL.el us i ∈ vs ∧ HL.el us i ∈ zs) → ∀ t, t < i + 1 → ¬ (HL.el us t ∈ vs ∧ HL.el us t ∈ zs)) := Lib.hid (by
                    intro h0 t ht
                    by_cases e : t = i
                    · subst e; exact h0
                    · exact HNO.out t (by omega))
                  generalize HL.el us i = y at *
                  by_cases m1 : y ∈ vs
                  · have d1 : decide (y ∈ vs) = true := by simpa using m1
                    rw [d1] at HH1
                    by_cases m2 : y ∈ zs
                    · have d2 : decide (y ∈ zs) = true := by simpa using m2
                      rw [d2] at HH2
                      clear m1 m2 d1 d2 HSTEP
                      go_wp2_with fail
                      refine HH1.out.mono ?_
                      rintro e w8 ⟨rfl, rfl⟩
                      go_wp2_with fail
                      refine HH2.out.mono ?_
                      rintro e w8 ⟨rfl, rfl⟩
                      go_wp2_with (go_at_call 8; refine (alive_true _).mono ?_; rintro e w' ⟨rfl, hb⟩)
                      go_ret
                      exact ⟨rfl, HBu.out.trans (hb.mono HBu.out.size)⟩
                    · have d2 : decide (y ∈ zs) = false := by simpa using m2
                      rw [d2] at HH2
                      have HST := Lib.hid (HSTEP.out (fun h => m2 h.2))
                      clear m1 m2 d1 d2 HSTEP
                      go_wp2_with fail
                      refine HH1.out.mono ?_
                      rintro e w8 ⟨rfl, rfl⟩
                      go_wp2_with fail
                      refine HH2.out.mono ?_
                      rintro e w8 ⟨rfl, rfl⟩
                      go_wp2
                      go_round
                      case rel => exact ⟨i + 1, by omega, by go_num, HST.out⟩
                      case measure => simp [intOf]; omega
                  · have d1 : decide (y ∈ vs) = false := by simpa using m1
                    rw [d1] at HH1
                    have HST := Lib.hid (HSTEP.out (fun h => m1 h.1))
                    clear m1 d1 HSTEP
                    go_wp2_with fail
                    refine HH1.out.mono ?_
                    rintro e w8 ⟨rfl, rfl⟩
                    go_wp2
                    go_round
                    case rel => exact ⟨i + 1, by omega, by go_num, HST.out⟩
                    case measure => simp [intOf]; omega
                · exfalso
                  obtain ⟨x, x1, x2, x3⟩ := HEX.out
                  obtain ⟨t, ht, e⟩ := List.getElem_of_mem x1
                  have he := HL.el_eq us t ht
                  rw [List.getElem?_eq_getElem ht] at he
                  injection he with he
                  rw [he] at e
                  refine HNO.out t (by have := HU.out.1; omega) ?_
                  rw [e]
                  exact ⟨x2, x3⟩
end Go.Proofs.Ytmfidemkmmbioaa
