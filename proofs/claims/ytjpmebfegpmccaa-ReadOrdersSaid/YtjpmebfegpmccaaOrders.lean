/- arboretumlaw21.ReadOrders returns true, whatever its arguments; nothing that was there is changed. -/
import Derived.Test.YtjpmebfegpmccaaTwo
import Derived.Laws.AppendOwnNone
namespace Go.Proofs.Ytjpmebfegpmccaa
open Go.RowKit

theorem below_two {B m : Nat} {w wr : World} {o1 o2 : Obj} (h : Below B w wr) (hb : B ≤ wr.heap.size) : Below B w (((wr.alloc o1).alloc o2).drewN m) :=
  below_drewN ((h.alloc hb _).alloc (by simp; omega) _) m

theorem RdI.take {w : World} {B n k : Nat} {p : Option Addr} {zs : List Int} (h : RdI w B p n zs) (hk : k ≤ n) : RdI w B p k (zs.take k) := by
  refine ⟨by rw [List.length_take, h.1]; omega, fun hk0 => ?_⟩
  obtain ⟨b, o, e, hb, hc⟩ := h.2 (by omega)
  refine ⟨b, o, e, hb, fun j hj => ?_⟩
  have : HL.el (zs.take k) j = HL.el zs j := by
    unfold HL.el
    rw [List.getD_eq_getElem?_getD, List.getD_eq_getElem?_getD, List.getElem?_take_of_lt hj]
  rw [this]
  exact hc j (by omega)

theorem some_end {zs : List Rd} {w : World} {qb B n ac : Nat} {T : List Wt} {ap : Option Addr} {sv : Value} {P l : List Wt} {w6 : World} (h : SomeRel w qb B n T (.slice ap n ac) sv P l w6) (hT : T.Perm (rl zs n)) :
    ∃ sp sc v, sv = .slice sp P.length sc ∧ RdI w6 w6.heap.size sp P.length (P.map (·.1)) ∧ RdI w6 w6.heap.size ap P.length (P.map (·.1)) ∧ ((ap = none ∧ n = 0 ∧ P.length = 0 ∧ ac = 0) ∨ (∃ b, ap = some ⟨b, 0, none⟩ ∧ n ≤ ac ∧ ac ≤ maxLen)) ∧ QueueI qb w.heap.size v l n w6 ∧
      (l.length : Int) = (n : Int) - (P.length : Int) ∧ Below w.heap.size w w6 := by
  obtain ⟨v, hq, ht, ho, hov, _, _, _, _, hb⟩ := h
  have hTn : T.length = n := by rw [hT.length_eq, rl_length]
  have hle := told_le ht
  obtain ⟨sp, sc, hsv⟩ := owns_slice ho
  refine ⟨sp, sc, v, hsv, ?_, ?_, ?_, hq, ?_, hb⟩
  · rw [hsv] at ho
    exact RdI.of_own ho (by rw [List.length_map])
  · rw [told_same ht]
    exact (RdI.of_own hov (by rw [List.length_map]; exact hTn)).take (by omega)
  · rcases hov.2 with ⟨he, h0⟩ | ⟨g, cap, cur, he, _, _, hc, hm, _⟩
    · injection he with e1 _ e3
      exact .inl ⟨e1, h0, by omega, e3⟩
    · injection he with e1 _ e3
      subst e3
      exact .inr ⟨g, e1, hc, hm⟩
  · rw [told_rest ht, hTn]

theorem row_at {w : World} {B n g : Nat} {zs : List Int} (h : RdI w B (some ⟨g, 0, none⟩) n zs) : ∀ j u, (rowOf ncells zs)[j]? = some u → w.cell? ((⟨g, 0, none⟩ : Addr).add j) = some u := by
  intro j u hu
  obtain ⟨hj, rfl⟩ := rowOf_ncells_get hu
  obtain ⟨b, o, e, _, hc⟩ := h.2 (by have := h.1; omega)
  injection e with e
  injection e with e1 e2
  subst e1 e2
  rw [add_at]
  exact hc j (by have := h.1; omega)

set_option maxHeartbeats 8000000 in
set_option maxRecDepth 100000 in
theorem readOrders_walk (p : Option Addr) (n c : Nat) (zs : List Rd) (hzs : ∀ z ∈ zs, rdok z) (p2 : Option Addr) (m c2 : Nat) (us : List Int) (w : World) (h : RdG rcells w w.heap.size p n zs) (h2 : RdI w w.heap.size p2 m us) :
    Calls Try.prog 5 #[.slice p n c, .slice p2 m c2] w fun e w' => e = .returned (.bool true) ∧ Below w.heap.size w w' := by
  by_cases hn : 40 < n
  · clear h h2
    go_enter Try.func5, Try.ntmps5
    go_wp2_with (go_at_call 7; refine (alive_true _).mono ?_; rintro e w' ⟨rfl, hb⟩)
    go_ret
    exact ⟨rfl, hb⟩
  by_cases hm : 20 < m
  · clear h h2
    go_enter Try.func5, Try.ntmps5
    go_wp2_with (go_at_call 7; refine (alive_true _).mono ?_; rintro e w' ⟨rfl, hb⟩)
    go_ret
    exact ⟨rfl, hb⟩
  have hn' : n ≤ 40 := by omega
  have hm' : m ≤ 20 := by omega
  have HZ := Lib.hid h
  have HA := Lib.hid h2
  have HZS := Lib.hid hzs
  clear h h2 hzs
  obtain ⟨i1, hi1, hz10, hz11, hz12⟩ := info_parts info_int
  go_enter Try.func5, Try.ntmps5
  go_wp2_with fail
  refine (queue_new _).mono ?_
  rintro e w1 ⟨rfl, hQ1, hb1⟩
  have HQ1 := Lib.hid hQ1
  have HB1 := Lib.hid hb1
  clear hQ1 hb1
  go_wp2_with fail
  refine (queue_new _).mono ?_
  rintro e w2 ⟨rfl, hQ2, hb2⟩
  have hw1 := HB1.out.size
  have HST : Hid (TwoRel zs w w1.heap.size 0 w2) := by
    have hlt := HQ1.out.lt
    refine ⟨_, [], _, [], HQ1.out.below hb2, by simp [rl], queue_base hQ2 hw1, by simp [rl], ?_, HB1.out.trans (hb2.mono hw1)⟩
    rintro k hk (hk2 | hk2)
    · have := hlt k hk
      omega
    · simp [Value.ownBlock] at hk2
  clear hQ2 hb2 HQ1 HB1
  generalize hqb : w1.heap.size = qb at *
  clear hqb
  go_wp2
  go_loopw [7, 8] (fun iv _ wr => ∃ i : Nat, i ≤ n ∧ iv = .int .i64 i ∧ TwoRel zs w qb i wr) (fun iv _ _ => n - (intOf iv).toNat)
  case atStart => exact ⟨0, Nat.zero_le _, rfl, HST.out⟩
  case round =>
    clear HST
    obtain ⟨i, hi, rfl, hT⟩ := hrel
    have hb : Below w.heap.size w wr := by obtain ⟨_, _, _, _, _, _, _, _, _, hb⟩ := hT; exact hb
    by_cases hlt : i < n
    · obtain ⟨b0, o0, e, hbl, q0, q1, q2⟩ := (HZ.out.below hb).read i hlt
      subst e
      have HADD := Lib.hid (fun o => two_first hT (by omega) (HL.el zs i).2.1 (HL.el zs i).2.2 ⟨rfl, rfl⟩ o)
      have HADD2 := Lib.hid (fun V (h : MidRel zs w qb i V) => two_second h hw1 (by omega) (HL.el zs i).2.1 (HL.el zs i).2.2 ⟨rfl, rfl⟩)
      have hbs := hb.size
      generalize HL.el zs i = x at *
      obtain ⟨x0, x1, x2⟩ := x
      clear hT hb
      go_wp2_with fail
      refine (HADD.out _).mono ?_
      rintro e w3 ⟨rfl, hM, hcell, hsz⟩
      have d0 : w3.cell? ⟨wr.heap.size, 0, none⟩ = some (.int .i64 i) := by rw [hcell]; go_simp
      have d1 : w3.cell? ⟨wr.heap.size, 1, none⟩ = some (.int .i64 x1) := by rw [hcell]; go_simp
      have d2 : w3.cell? ⟨wr.heap.size, 2, none⟩ = some (.int .i64 x2) := by rw [hcell]; go_simp
      have HM := Lib.hid (HADD2.out _ hM)
      clear hM hcell
      go_wp2_with fail
      refine HM.out.mono ?_
      rintro e w4 ⟨rfl, hR⟩
      have HR := Lib.hid hR
      clear hR
      go_wp2
      go_roundw
      case rel => exact ⟨i + 1, by omega, by go_num, HR.out⟩
      case measure => simp [intOf]; omega
    · have : i = n := by omega
      subst this
      obtain ⟨v, l, v2, l2, hq, hp, hq2, hp2, hd, hb⟩ := hT
      have HCL := Lib.hid (queue_clear _ _ v l _ wr hq)
      have HQ := Lib.hid (And.intro hq (And.intro hp (And.intro hq2 (And.intro hp2 hd))))
      have HB := Lib.hid hb
      clear hq hp hq2 hp2 hd hb
      go_wp2_with fail
      refine HCL.out.mono ?_
      rintro e w3 ⟨av, T, v3, l3, rfl, hpT, hs, ho, _, _, hF, _⟩
      have hpT' := hpT.trans HQ.out.2.1
      rw [filter_all] at ho
      have hTl : T.length = i := by rw [hpT'.length_eq, rl_length]
      rw [hTl] at ho
      obtain ⟨ap, ac, hov⟩ := owns_slice ho
      have hqlt := HQ.out.2.2.1.lt
      have hws := HB.out.size
      have HSOME : Hid (SomeRel w qb w3.heap.size i T av (.slice none 0 0) [] l2 w3) := by
        refine ⟨v2, HQ.out.2.2.1.keep hF (fun k hk h => HQ.out.2.2.2.2 k h hk), told_start (HQ.out.2.2.2.1.trans hpT'.symm), World.ownsRow_nil _ _ _ _, owns_base ho hws, fun g hg => ?_, ?_, hw1, Nat.le_refl _, HB.out.trans (hF.below hws (HQ.out.1.ge (Nat.le_refl _)))⟩
        · have h1 := ho.lt g hg
          have h2 := hqlt qb (.inl rfl)
          omega
        · have h1 := hqlt qb (.inl rfl)
          have h2 := hF.size
          omega
      have hb3 : Below w.heap.size w w3 := HB.out.trans (hF.below hws (HQ.out.1.ge (Nat.le_refl _)))
      have HZ3 := Lib.hid (HZ.out.below hb3)
      have hbs3 := hb3.size
      have hs' : SortW T := hs
      have HPT := Lib.hid (And.intro hpT' hs')
      have HI := Lib.hid (fun x hx => rl_small HZS.out HZ.out.1 x (hpT'.subset hx))
      have HNX := Lib.hid (fun k hk => sort_next hpT' hs' (k := k) hk)
      rw [hov] at ho HSOME
      have HRA := Lib.hid (RdI.of_own ho (by rw [List.length_map]; exact hTl))
      subst hov
      clear hpT hpT' hs hs' ho hF hTl hqlt hws hb3 HQ HB HCL HZ HZS
      generalize hA : T.map (·.1) = A at *
      have HEA := Lib.hid hA; clear hA
      go_wp2
      go_loopw [10, 11, 12] (fun iv _ _ wr => ∃ k : Nat, (k = 0 ∨ k < i) ∧ iv = .int .i64 ((k : Int) + 1) ∧ Below w3.heap.size w3 wr) (fun iv _ _ _ => i - (intOf iv).toNat)
      case atStart => exact ⟨0, .inl rfl, rfl, Below.refl _ _⟩
      case round =>
        obtain ⟨k, hk, rfl, hbk⟩ := hrel
        by_cases hlt : k + 1 < i
        · obtain ⟨x, y, hx, hy, ex, ey, hno⟩ := HNX.out k hlt
          have HRK := (HRA.out.below hbk)
          obtain ⟨ab, ao, e, hab, hac⟩ := HRK.2 (by omega)
          subst e
          have a1 := hac k (by omega)
          have a2 := hac (k + 1) hlt
          rw [ex] at a1
          rw [ey] at a2
          have HZK := HZ3.out.below (hbk.mono hbs3)
          obtain ⟨b0, o0, e, hbl, y0, y1, y2⟩ := HZK.read y hy
          subst e
          obtain ⟨b0', o0', e, hbl', x0, x1, x2⟩ := HZK.read x hx
          injection e with e
          injection e with e e'
          subst e e'
          have HBK := Lib.hid hbk
          have hbs := hbk.size
          clear hbk HRK hac ex ey HZK hbl'
          generalize HL.el zs x = X at *
          generalize HL.el zs y = Y at *
          obtain ⟨X0, X1, X2⟩ := X
          obtain ⟨Y0, Y1, Y2⟩ := Y
          simp only at hno x0 x1 x2 y0 y1 y2
          have gk : IntKind.i64.wrap ((k : Int) + 1 - 1) = (k : Int) := by rw [IntWalk.i64_in _ ⟨by omega, by omega⟩]; omega
          have hab' : ab < wr.heap.size := by omega
          have hbl' : b0 < wr.heap.size := by omega
          have a3 := a2
          rw [← Nat.add_assoc] at a3
          have g1 : decide (Y2 < X2) = false := decide_eq_false (by omega)
          rcases Int.lt_trichotomy X2 Y2 with hc | hc | hc
          · have g2 : (X2 == Y2) = false := beq_eq_false_iff_ne.2 (by omega)
            clear hno hc
            go_wp2_with fail
            go_big_region
            all_goals (
              go_wp2_with fail
              go_quiet (fail)
              go_wp2
              go_roundw
              case rel => exact ⟨k + 1, .inr hlt, by go_num, below_two HBK.out hbs⟩
              case measure => simp [intOf]; omega)
          · have g2 : (X2 == Y2) = true := beq_iff_eq.2 hc
            have g3 : decide (Y1 < X1) = false := decide_eq_false (by omega)
            rcases Int.lt_trichotomy X1 Y1 with hd | hd | hd
            · have g4 : (X1 == Y1) = false := beq_eq_false_iff_ne.2 (by omega)
              clear hno hc hd
              go_wp2_with fail
              go_big_region
              all_goals (
                go_wp2_with fail
                go_quiet (fail)
                go_wp2
                go_roundw
                case rel => exact ⟨k + 1, .inr hlt, by go_num, below_two HBK.out hbs⟩
                case measure => simp [intOf]; omega)
            · have g4 : (X1 == Y1) = true := beq_iff_eq.2 hd
              have g5 : decide ((y : Int) < (x : Int)) = false := decide_eq_false (by omega)
              have g6 : x ≤ y := by omega
              clear hno hc hd
              go_wp2_with fail
              go_big_region
              all_goals (
                go_wp2_with fail
                go_quiet (fail)
                go_wp2
                go_roundw
                case rel => exact ⟨k + 1, .inr hlt, by go_num, below_two HBK.out hbs⟩
                case measure => simp [intOf]; omega)
            · exact absurd hd (by omega)
          · exact absurd hc (by omega)
        · have HSK := Lib.hid (HSOME.out.keep hbk)
          clear HNX HRA HZ3 HSOME hbk hk
          have HST : Hid (∃ P l, SomeRel w qb w3.heap.size i T (.slice ap i ac) (.slice none 0 0) P l wr) := ⟨[], l2, HSK.out⟩
          clear HSK
          generalize hB : w3.heap.size = B at *
          clear hB
          go_wp2
          go_loopw [13, 14, 15] (fun sv lv jv wr' => ∃ (j : Nat) (a : Int), j ≤ m ∧ jv = .int .i64 j ∧ lv = .int .i64 a ∧ ∃ P l, SomeRel w qb B i T (.slice ap i ac) sv P l wr') (fun _ _ jv _ => m - (intOf jv).toNat)
          case atStart => exact ⟨0, _, Nat.zero_le _, rfl, rfl, HST.out⟩
          case round =>
            clear HST
            obtain ⟨j, a, hj, rfl, rfl, P, l0, hS⟩ := hrel
            have hbw : Below w.heap.size w wr := by obtain ⟨_, _, _, _, _, _, _, _, _, hb⟩ := hS; exact hb
            by_cases hjm : j < m
            · have HSR := Lib.hid (fun a => some_ready hS HPT.out.1 HPT.out.2 HI.out a)
              obtain ⟨ub, uo, e, hub, huc⟩ := (HA.out.below hbw).2 (by omega)
              subst e
              have u1 := huc j hjm
              clear hS huc hbw
              generalize HL.el us j = y at *
              go_wp2_with fail
              all_goals (
                refine (HSR.out _).mono ?_
                rintro e w5 ⟨ov, l', X, rfl, hoX, hoP, hlen, hBw, hnext⟩
                rw [List.length_append] at hlen
                have HOX := Lib.hid hoX
                have HOP := Lib.hid hoP
                have HNE := Lib.hid hnext
                have HLX : Hid ((rowOf ncells (X.map (·.1))).length = X.length) := by have := hoX.1; rw [Nat.mul_one] at this; exact this
                clear hoX hoP hnext HSR
                rcases HOX.out.2 with ⟨hov, h0⟩ | ⟨g, cap, cur, hov, _⟩
                · subst hov
                  have hX : X = [] := List.eq_nil_of_length_eq_zero h0
                  subst hX
                  have HNX := Lib.hid (HNE.out u13 w5 (by rw [List.append_nil]; exact HOP.out) (World.grownBy.refl _ _))
                  clear HNE
                  go_wp2_with (at_builtin; refine wpList_append_own_none rfl _ _ 27 rfl B 3 i1 1 Try.underlying27 hi1 u13 P.length _ rfl HOP.out rfl ?_)
                  go_roundw
                  case rel => exact ⟨j + 1, _, by omega, by go_num, rfl, _, _, HNX.out⟩
                  case measure => simp [intOf]; omega
                · have HRX : Hid (RdI w5 w5.heap.size (some ⟨g, 0, none⟩) X.length (X.map (·.1))) := RdI.of_own (c := cap) (by rw [← hov]; exact HOX.out) (by rw [List.length_map])
                  subst hov
                  generalize hPl : P.length = N at *
                  generalize hXl : X.length = M at *
                  have HPX := Lib.hid (And.intro hPl hXl)
                  clear hPl hXl
                  go_wp2_with (at_builtin; refine wpList_append_own _ rfl _ _ 27 rfl B 3 i1 _ 1 8 Try.underlying27 hi1 hz10 hz11 hz12 rfl (by omega) u13 N _ rfl HOP.out ⟨g, 0, none⟩ M cap (rowOf ncells (X.map (·.1))) rfl ?c1 ?c2 ?c3 ?c4 ?c5 ?c6 ?_; (case c1 => rw [HLX.out, Nat.mul_one]); (case c2 => exact row_at HRX.out); (case c3 => exact rowOf_ncells_one); (case c4 => unfold maxLen; omega); (case c5 => omega); (case c6 => exact hBw); intro v6 w6 hown6 hgr6 _; have H6 := Lib.hid (And.intro hown6 hgr6); clear hown6 hgr6)
                  have HNX : Hid (SomeRel w qb B i T (.slice ap i ac) v6 (P ++ X) l' w6) := HNE.out v6 w6 (by rw [List.length_append, HPX.out.1, HPX.out.2, List.map_append, rowOf_append]; exact H6.out.1) H6.out.2
                  clear HNE H6 HRX HOX HOP
                  go_roundw
                  case rel => exact ⟨j + 1, _, by omega, by go_num, rfl, _, _, HNX.out⟩
                  case measure => simp [intOf]; omega)
            · have hPi : P.length ≤ i := by
                obtain ⟨_, _, ht, _⟩ := hS
                have := told_le ht
                have h2 := HPT.out.1.length_eq
                rw [rl_length] at h2
                omega
              have HS := Lib.hid hS
              obtain ⟨sp, sc, _, hsv, _⟩ := some_end hS HPT.out.1
              subst hsv
              clear hS hbw
              have gi : ((i : Int) == (i : Int)) = true := by simp
              go_wp2_with fail
              refine (alive_true _).mono ?_
              rintro e w6 ⟨rfl, hb6⟩
              obtain ⟨sp', sc', v6, hsv, hr1, hr2, hap, hq6, hl6, hB6⟩ := some_end (HS.out.keep hb6) HPT.out.1
              injection hsv with e1 _ e3
              subst e1 e3
              have HSI := Lib.hid (fun c d => same_ints sp ap P.length c P.length d _ _ w6 _ _ hr1 hr2 (by omega) (by omega))
              have HQ6 := Lib.hid hq6
              have HL6 := Lib.hid hl6
              have HB6 := Lib.hid hB6
              clear HS hb6 hr1 hr2 hq6 hl6 hB6
              generalize P.length = N at *
              rcases hap with ⟨rfl, rfl, rfl, rfl⟩ | ⟨b, rfl, hic, hmx⟩
              · go_wp2_with fail
                refine (HSI.out _ _).mono ?_
                rintro e w7 ⟨bb, mm, rfl, hbb, rfl⟩
                obtain rfl : bb = true := hbb.2 rfl
                have HQ7 := Lib.hid (HQ6.out.keep ((Fr.refl (fun _ => False) w6).drewN mm) (fun _ _ h => h))
                have HB7 := Lib.hid (below_drewN HB6.out mm)
                clear hbb HQ6 HB6
                go_wp2_with fail
                refine (queue_len _ _ _ _ _ _ HQ7.out).mono ?_
                rintro e w8 ⟨rfl, rfl⟩
                have hl0 : l0.length = 0 := by have := HL6.out; omega
                rw [hl0]
                go_wp2
                go_ret
                exact ⟨rfl, HB7.out⟩
              · unfold maxLen at hmx
                go_wp2_with fail
                refine (HSI.out _ _).mono ?_
                rintro e w7 ⟨bb, mm, rfl, hbb, rfl⟩
                obtain rfl : bb = true := hbb.2 rfl
                have HQ7 := Lib.hid (HQ6.out.keep ((Fr.refl (fun _ => False) w6).drewN mm) (fun _ _ h => h))
                have HB7 := Lib.hid (below_drewN HB6.out mm)
                clear hbb HQ6 HB6
                go_wp2_with fail
                refine (queue_len _ _ _ _ _ _ HQ7.out).mono ?_
                rintro e w8 ⟨rfl, rfl⟩
                rw [HL6.out]
                have gL : (((i : Int) - (N : Int)) == ((i : Int) - (N : Int))) = true := by simp
                go_wp2
                go_ret
                exact ⟨rfl, HB7.out⟩
end Go.Proofs.Ytjpmebfegpmccaa
