/- arboretumlaw6.FreeHolds returns true, whatever its arguments. -/
import Derived.Test.YtedcpckocedcoaaFHoldsM
import Derived.Test.YtedcpckocedcoaaOpenI
namespace Go.Proofs.Ytedcpckocedcoaa
open Go.RowKit

set_option maxHeartbeats 2000000 in
set_option maxRecDepth 100000 in
theorem holds_no (p q : Option Addr) (n c m d : Nat) (w : World) (h : 30 < n ∨ 60 < m) : Calls Try.prog 3 #[.slice p n c, .slice q m d] w fun e w' => e = .returned (.bool true) ∧ Below w.heap.size w w' := by
  have HA := Lib.hid (fun w => falive_true w)
  have h6 : 30 < n ∨ (¬ 30 < n ∧ 60 < m) := by omega
  clear h
  rcases h6 with h1 | ⟨h1, h2⟩
  all_goals
    go_enter Try.func3, Try.ntmps3
    go_wp2_with fail
    refine (HA.out _).mono ?_
    rintro e w3 ⟨rfl, hb3⟩
    have HB := Lib.hid hb3
    clear hb3
    go_wp2
    go_ret
    exact ⟨rfl, HB.out⟩

/-- A cell of an argument, later. -/
theorem rd_cell {w wr : World} {p : Option Addr} {n k : Nat} {zs : List Int} (h : RdI w w.heap.size p n zs) (hb : Below w.heap.size w wr) (hk : k < n) : ∃ b o, p = some ⟨b, o, none⟩ ∧ b < w.heap.size ∧ wr.cell? ⟨b, o + k, none⟩ = some (.int .i64 (HL.el zs k)) := by
  obtain ⟨b, o, e, hbl, hc⟩ := (h.below hb).2 (by omega)
  exact ⟨b, o, e, hbl, hc k hk⟩

set_option maxHeartbeats 4000000 in
set_option maxRecDepth 100000 in
theorem holds_yes (p q : Option Addr) (n c m d : Nat) (ps gs : List Int) (w : World) (h : RdI w w.heap.size p n ps) (h2 : RdI w w.heap.size q m gs) (hw : ∀ z ∈ ps, int64ok z) (hn : n ≤ 30) (hm : m ≤ 60) :
    Calls Try.prog 3 #[.slice p n c, .slice q m d] w fun e w' => e = .returned (.bool true) ∧ Below w.heap.size w w' := by
  have HA := Lib.hid (fun w => falive_true w)
  have HN := Lib.hid (fe_new none 0 0 [] w ⟨rfl, fun h => by omega⟩ (by omega))
  have HP := Lib.hid h
  have HQ := Lib.hid h2
  have HPL := Lib.hid h.1
  have HQL := Lib.hid h2.1
  have HW : Hid (∀ k, k < n → (Lit.int .i64 (HL.el ps k)).wf = true) := Lib.hid (fun k hk => hw _ (HL.el_mem ps k (by rw [h.1]; exact hk)))
  clear h h2 hw
  go_enter Try.func3, Try.ntmps3
  go_wp2_with fail
  refine HN.out.mono ?_
  rintro e w1 ⟨rfl, l1, F1, hI1, hp1, hb1⟩
  obtain rfl : l1 = [] := hp1.eq_nil
  have HI1 : Hid (PnI w.heap.size ps 0 0 F1 w w1) := Lib.hid ⟨⟨_, hI1, PinsR.nil⟩, (fun h => by omega), hb1, Nat.le_refl _⟩
  clear hI1 hp1 hb1 HN
  go_wp2
  go_loopw [6, 7] (fun ev iv wr => ∃ (k : Nat) (e : Int) (F : Nat → Prop), k ≤ n ∧ iv = .int .i64 k ∧ ev = .int .i64 e ∧ Hid (PnI w.heap.size ps k e F w wr)) (fun _ iv _ => n - (intOf iv).toNat)
  case atStart => exact ⟨0, 0, F1, Nat.zero_le _, rfl, rfl, HI1⟩
  case round =>
    clear HI1
    obtain ⟨k, e, F, hk, rfl, rfl, hT⟩ := hrel
    by_cases hlt : k < n
    · obtain ⟨b, o, hpe, hbl, hcell⟩ := rd_cell HP.out hT.out.bel hlt
      subst hpe
      have HPN := Lib.hid (pn_pin hT.out (by rw [HPL.out]; exact hlt) (HW.out k hlt) (by rw [HPL.out]; omega))
      have HCL : Hid (∀ wr, Below w.heap.size w wr → wr.cell? ⟨b, o + k, none⟩ = some (.int .i64 (HL.el ps k))) := Lib.hid (fun wr hb => by
        obtain ⟨b', o', e', _, hc⟩ := rd_cell HP.out hb hlt
        injection e' with e'
        injection e' with e1 e2
        subst e1 e2
        exact hc)
      generalize HL.el ps k = x at *
      clear hT
      go_wp2_with fail
      refine HPN.out.mono ?_
      rintro ex w2 ⟨rfl, F2, hI2⟩
      have hc2 := HCL.out w2 hI2.bel
      have HI2 := Lib.hid hI2
      clear hI2 HPN HCL hcell
      have h3 : k = 0 ∨ (k ≠ 0 ∧ x < e) ∨ (k ≠ 0 ∧ ¬ x < e) := by omega
      rcases h3 with h0 | ⟨h0, h1⟩ | ⟨h0, h1⟩
      · have he : eld k e x = x := by simp [eld, h0]
        rw [he] at HI2
        have hz : ((k : Int) == 0) = true := by rw [beq_iff_eq]; omega
        clear he h0
        go_wp2
        go_roundw
        case rel => exact ⟨k + 1, x, F2, by omega, by go_num, rfl, HI2⟩
        case measure => simp [intOf]; omega
      · have he : eld k e x = x := by simp [eld, h1]
        rw [he] at HI2
        have hz : ((k : Int) == 0) = false := by rw [beq_eq_false_iff_ne]; omega
        clear he
        go_wp2
        go_roundw
        case rel => exact ⟨k + 1, x, F2, by omega, by go_num, rfl, HI2⟩
        case measure => simp [intOf]; omega
      · have he : eld k e x = e := by simp [eld, h0, h1]
        rw [he] at HI2
        have hz : ((k : Int) == 0) = false := by rw [beq_eq_false_iff_ne]; omega
        clear he
        go_wp2
        go_roundw
        case rel => exact ⟨k + 1, e, F2, by omega, by go_num, rfl, HI2⟩
        case measure => simp [intOf]; omega
    · obtain rfl : k = n := by omega
      obtain ⟨hG, hL⟩ := pn_gv (gs := gs) hT.out HPL.out
      have HG := Lib.hid hG
      have HL0 := Lib.hid hL
      clear hT hG hL
      go_wp2
      go_loopw [8] (fun iv wr => ∃ (i : Nat) (F' : Nat → Prop), i ≤ m ∧ iv = .int .i64 i ∧ Hid (GvI w.heap.size ps gs k i F' w wr)) (fun iv _ => m - (intOf iv).toNat)
      case atStart => exact ⟨0, F, Nat.zero_le _, rfl, HG⟩
      case round =>
        clear HG
        obtain ⟨i, F', hi, rfl, hB⟩ := hrel
        by_cases him : i < m
        · obtain ⟨b, o, hpe, hbl, hcell⟩ := rd_cell HQ.out hB.out.bel him
          subst hpe
          have HGV := Lib.hid (gv_give hB.out (by omega))
          have hbs := hB.out.bel.size
          generalize HL.el gs i = x at *
          clear hB
          go_wp2_with fail
          refine HGV.out.mono ?_
          rintro ex w3 ⟨rfl, F3, hB3⟩
          have HB3 := Lib.hid hB3
          clear hB3 HGV
          go_wp2
          go_roundw
          case rel => exact ⟨i + 1, F3, by omega, by go_num, HB3⟩
          case measure => simp [intOf]; omega
        · obtain rfl : i = m := by omega
          have HRL := Lib.hid (hd_release (e := e) hB.out HQL.out HL0.out (by omega) (by omega))
          clear hB
          go_wp2_with fail
          refine HRL.out.mono ?_
          rintro ex w3 ⟨r, t, F3, rfl, htm, hD3⟩
          have HD3 := Lib.hid hD3
          have HLN := Lib.hid (hd_len hD3)
          rw [Nat.sub_zero] at HLN
          clear hD3 HRL
          go_wp2_with fail
          refine HLN.out.mono ?_
          rintro ex w4 ⟨rfl, rfl⟩
          clear HLN
          go_wp2
          go_loopw [10, 11, 12] (fun iv _ _ wr => ∃ (j : Nat) (F' : Nat → Prop), j ≤ t ∧ iv = .int .i64 j ∧ Hid (HdI w.heap.size ps gs k i t j e F' w wr)) (fun iv _ _ _ => t - (intOf iv).toNat)
          case atStart => exact ⟨0, F3, Nat.zero_le _, rfl, HD3⟩
          case round =>
            clear HD3
            obtain ⟨j, F4, hj, rfl, hD⟩ := hrel
            by_cases hjt : j < t
            · have HTK := Lib.hid (hd_take hD.out hjt)
              clear hD
              go_wp2_with fail
              refine HTK.out.mono ?_
              rintro ex w5 ⟨y, rfl, hyi, hye, F5, hD5⟩
              have HD5 := Lib.hid hD5
              obtain ⟨b, o, hpe, hbl, hcell⟩ := rd_cell HQ.out hD5.bel hyi
              subst hpe
              rw [HPL.out] at hye
              clear hD5 HTK
              have hy0 : ¬ ((y : Int) < 0) := by omega
              have hy1 : ¬ ((i : Int) ≤ (y : Int)) := by omega
              rcases Nat.eq_zero_or_pos k with hk0 | hk0
              · have hk1 : ¬ ((0 : Int) < (k : Int)) := by omega
                clear hye hk0
                go_wp2
                go_roundw
                case rel => exact ⟨j + 1, F5, by omega, by go_num, HD5⟩
                case measure => simp [intOf]; omega
              · have hk1 : (0 : Int) < (k : Int) := by omega
                have hgt : ¬ (e < HL.el gs y) := by have := hye hk0; omega
                generalize HL.el gs y = z at *
                clear hye
                go_wp2
                go_roundw
                case rel => exact ⟨j + 1, F5, by omega, by go_num, HD5⟩
                case measure => simp [intOf]; omega
            · obtain rfl : j = t := by omega
              have HLN := Lib.hid (hd_len hD.out)
              rw [Nat.sub_self] at HLN
              have HWT := Lib.hid (hd_waiting hD.out)
              have HUN := Lib.hid (hd_un hD.out)
              clear hD
              go_wp2_with fail
              refine HLN.out.mono ?_
              rintro ex w4 ⟨rfl, rfl⟩
              have hq : IntKind.i64.wrap ((i : Int) - (j : Int)) = (i : Int) - (j : Int) := IntWalk.i64_in _ ⟨by omega, by omega⟩
              have hq2 : (((i - j : Nat) : Int) != (i : Int) - (j : Int)) = false := by rw [bne_eq_false_iff_eq]; omega
              have hq3 : (((i - j : Nat) : Int) == (i : Int) - (j : Int)) = true := by rw [beq_iff_eq]; omega
              clear HLN
              go_wp2_with fail
              refine HWT.out.mono ?_
              rintro ex w4 ⟨rfl, rfl⟩
              clear HWT
              go_wp2
              go_loopw [13] (fun iv wr => ∃ (r : Nat) (F' : Nat → Prop), r ≤ k ∧ iv = .int .i64 r ∧ Hid (UnI w.heap.size ps k (i - j) r F' w wr)) (fun iv _ => k - (intOf iv).toNat)
              case atStart => exact ⟨0, F4, Nat.zero_le _, rfl, HUN⟩
              case round =>
                clear HUN
                obtain ⟨r, F6, hr, rfl, hU⟩ := hrel
                by_cases hrk : r < k
                · obtain ⟨b, o, hpe, hbl, hcell⟩ := rd_cell HP.out hU.out.bel hrk
                  subst hpe
                  have HUP := Lib.hid (un_unpin hU.out (by rw [HPL.out]; exact hrk) (HW.out r hrk) (by rw [HPL.out]; omega) (by omega))
                  generalize HL.el ps r = x at *
                  clear hU
                  go_wp2_with fail
                  refine HUP.out.mono ?_
                  rintro ex w5 ⟨rfl, F7, hU7⟩
                  have HU7 := Lib.hid hU7
                  clear hU7 HUP
                  go_wp2
                  go_roundw
                  case rel => exact ⟨r + 1, F7, by omega, by go_num, HU7⟩
                  case measure => simp [intOf]; omega
                · obtain rfl : r = k := by omega
                  have HU := hU
                  clear hU
                  go_wp2_with fail
                  refine (HA.out _).mono ?_
                  rintro ex w6 ⟨rfl, hb6⟩
                  have hU6 := HU.out.below hb6
                  rw [← HPL.out] at hU6
                  have HRL := Lib.hid (un_release hU6 (by rw [HPL.out]; omega) (by rw [HPL.out]; omega) (by omega))
                  clear hb6 hU6 HU
                  go_wp2_with fail
                  refine HRL.out.mono ?_
                  rintro ex w7 ⟨rfl, D7, F7, l7, hI7, hb7⟩
                  have HWT := Lib.hid (fe_waiting hI7)
                  rw [List.length_nil] at HWT
                  have HB7 := Lib.hid hb7
                  clear hI7 hb7 HRL
                  go_wp2_with fail
                  refine HWT.out.mono ?_
                  rintro ex w8 ⟨rfl, rfl⟩
                  go_wp2
                  go_ret
                  exact ⟨rfl, HB7.out⟩

theorem row_wf {w : World} {a : Option Addr} {len cap : Nat} {zs : List Int}
    (h : (a = none ∧ len = 0 ∧ cap = 0 ∧ zs = []) ∨ ∃ x, a = some x ∧ len ≤ cap ∧ cap ≤ maxLen ∧ zs.length = cap ∧ (∀ i, i < zs.length → w.cell? (x.add i) = some (.int .i64 (zs.getD i 0))) ∧ ∀ n ∈ zs, (Lit.int .i64 n).wf = true) : ∀ z ∈ zs.take len, int64ok z := by
  rcases h with ⟨_, _, _, rfl⟩ | ⟨_, _, _, _, _, _, h⟩
  · intro z hz
    rw [List.take_nil] at hz
    cases hz
  · exact fun z hz => h z (List.mem_of_mem_take hz)

theorem holds_walk (p q : Option Addr) (n c m d : Nat) (ps gs : List Int) (w : World) (h : RdI w w.heap.size p n ps) (h2 : RdI w w.heap.size q m gs) (hw : ∀ z ∈ ps, int64ok z) :
    Calls Try.prog 3 #[.slice p n c, .slice q m d] w fun e w' => e = .returned (.bool true) ∧ Below w.heap.size w w' := by
  by_cases hno : 30 < n ∨ 60 < m
  · exact holds_no p q n c m d w hno
  · exact holds_yes p q n c m d ps gs w h h2 hw (by omega) (by omega)
end Go.Proofs.Ytedcpckocedcoaa
