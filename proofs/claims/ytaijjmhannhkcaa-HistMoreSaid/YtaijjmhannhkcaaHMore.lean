/- chapter 30: HistMore. -/
import Derived.Test.YtaijjmhannhkcaaHMoreL
import Derived.Laws.AppendOwnNone
namespace Go.Proofs.Ytaijjmhannhkcaa
open Go.RowKit

theorem evc_one {zs : List Ev} : ∀ u ∈ rowOf evc zs, u.oneCell' = true := by
  intro u hu
  obtain ⟨e, _, he⟩ := List.mem_flatMap.1 hu
  simp only [evc, List.mem_cons, List.not_mem_nil, or_false] at he
  rcases he with rfl | rfl | rfl | rfl | rfl | rfl | rfl | rfl | rfl | rfl | rfl | rfl | rfl | rfl <;> rfl

/-- append(nil, l...) of events. -/
theorem copy_events {ops : Array Oper} {rest : List Oper} {o : Oper} {a : Act} {Q : Exit → Act → World → Prop} {w : World} (hgd : o.guard = none) (s x : Operand)
    (ho : o.op = .call { callee := .builtin .append, args := #[s, x], argTypes := #[33, 33] }) (hs : a.eval s = .slice none 0 0)
    (p : Option Addr) (m c : Nat) (zs : List Ev) (hx : a.eval x = .slice p m c) (hR : RdG evc w w.heap.size p m zs) (hm0 : 0 < m) (hsm : m ≤ 1000000)
    (h : ∀ v' w', w'.ownsRow w.heap.size 29 14 v' m (rowOf evc zs) → w.grownBy w' none → wpList Try.prog ops Q rest (a.put o.dst v') w') : wpList Try.prog ops Q (o :: rest) a w := by
  obtain ⟨i0, hi0, hz0, hz1, hz2⟩ := info_parts info_ev
  have hlen : (rowOf evc zs).length = m * 14 := by rw [rowOf_length evc evc_length, hR.1]
  obtain ⟨b, o', rfl, hlt, hc⟩ := hR.2 hm0
  refine wpList_append_own w hgd s x _ ho w.heap.size 29 i0 _ 14 144 Try.underlying33 hi0 hz0 hz1 hz2 rfl (by omega) (.slice none 0 0) 0 [] hs (World.ownsRow_nil _ _ _ _) ⟨b, o', none⟩ m c (rowOf evc zs) hx hlen ?_ evc_one (by unfold maxLen; omega) (by omega) (Nat.le_refl _) ?_
  · intro j u hu
    rw [add_at]
    exact hc j u hu
  · intro v' w' h1 h2 _
    rw [Nat.zero_add, List.nil_append] at h1
    exact h v' w' h1 h2

def SmE (e : Ev) : Prop := e.val.size ≤ 300 ∧ -1099511627776 ≤ e.frm ∧ e.to ≤ 1099511627776

set_option maxHeartbeats 4000000 in
set_option maxRecDepth 100000 in
theorem more_out (p : Option Addr) (n c : Nat) (k x : Int) (w : World) (h : 6 < n ∨ k < 0 ∨ (n : Int) ≤ k ∨ x < 0 ∨ 1000 < x) :
    Calls Try.prog 4 #[.slice p n c, .int .i64 k, .int .i64 x] w fun e w' => e = .returned (.bool true) ∧ Below w.heap.size w w' := by
  by_cases h0 : (6 : Int) < (n : Int)
  · clear h
    go_enter Try.func4, Try.ntmps4
    go_wp2_with fail
    refine (alive_true _).mono ?_
    rintro e w1 ⟨rfl, hb1⟩
    go_wp2
    go_ret
    exact ⟨rfl, hb1⟩
  · by_cases h1 : k < 0
    · clear h
      go_enter Try.func4, Try.ntmps4
      go_wp2_with fail
      refine (alive_true _).mono ?_
      rintro e w1 ⟨rfl, hb1⟩
      go_wp2
      go_ret
      exact ⟨rfl, hb1⟩
    · by_cases h2 : (n : Int) ≤ k
      · clear h
        go_enter Try.func4, Try.ntmps4
        go_wp2_with fail
        refine (alive_true _).mono ?_
        rintro e w1 ⟨rfl, hb1⟩
        go_wp2
        go_ret
        exact ⟨rfl, hb1⟩
      · by_cases h3 : x < 0
        · clear h
          go_enter Try.func4, Try.ntmps4
          go_wp2_with fail
          refine (alive_true _).mono ?_
          rintro e w1 ⟨rfl, hb1⟩
          go_wp2
          go_ret
          exact ⟨rfl, hb1⟩
        · have h4 : 1000 < x := by omega
          clear h
          go_enter Try.func4, Try.ntmps4
          go_wp2_with fail
          refine (alive_true _).mono ?_
          rintro e w1 ⟨rfl, hb1⟩
          go_wp2
          go_ret
          exact ⟨rfl, hb1⟩

set_option maxHeartbeats 8000000 in
set_option maxRecDepth 100000 in
theorem more_in (p : Option Addr) (n c k : Nat) (x : Int) (zs : List Ev) (w : World) (h : RdG evc w w.heap.size p n zs) (hg : ∀ z ∈ zs, evok z) (hn : n ≤ 6) (hkn : k < n) (hx0 : 0 ≤ x) (hx1 : x ≤ 1000) :
    Calls Try.prog 4 #[.slice p n c, .int .i64 k, .int .i64 x] w fun e w' => e = .returned (.bool true) ∧ Below w.heap.size w w' := by
  have HR := Lib.hid h
  have HO := Lib.hid hg
  have HA := Lib.hid alive_true
  clear h hg
  have g0 : ¬ (6 : Int) < (n : Int) := by omega
  have g1 : ¬ (k : Int) < 0 := by omega
  have g2 : ¬ (n : Int) ≤ (k : Int) := by omega
  have g3 : ¬ x < 0 := by omega
  have g4 : ¬ 1000 < x := by omega
  go_enter Try.func4, Try.ntmps4
  go_wp2
  clear g0 g1 g2 g3 g4
  go_loopw [7] (fun iv wr => ∃ i : Nat, i ≤ n ∧ iv = .int .i64 i ∧ Hid (Below w.heap.size w wr) ∧ Hid (∀ j, j < i → SmE (zs.getD j default))) (fun iv _ => n - (intOf iv).toNat)
  case atStart => exact ⟨0, Nat.zero_le _, rfl, Lib.hid (Below.refl _ _), Lib.hid (fun j hj => by omega)⟩
  case round =>
    obtain ⟨i, hi, rfl, HB, HK⟩ := hrel
    by_cases hlt : i < n
    · have hltI : (i : Int) < (n : Int) := by omega
      obtain ⟨b, o, elp, hb9, hcell⟩ := ev_cell (HR.out.below HB.out) i hlt
      subst elp
      have HNX : Hid (SmE (zs.getD i default) → ∀ j, j < i + 1 → SmE (zs.getD j default)) := Lib.hid (fun hs j hj => by
        by_cases e : j = i
        · subst e; exact hs
        · exact HK.out j (by omega))
      generalize zs.getD i default = ev at *
      obtain ⟨client, num, kind, sess, sq, key, val, old, err, rval, rnum, frm, to, done⟩ := ev
      have d5 : wr.cell? ⟨b, o + i * 14 + 5, none⟩ = some (.string key) := hcell 5 _ rfl (by omega)
      have d6 : wr.cell? ⟨b, o + i * 14 + 6, none⟩ = some (.string val) := hcell 6 _ rfl (by omega)
      have d7 : wr.cell? ⟨b, o + i * 14 + 7, none⟩ = some (.string old) := hcell 7 _ rfl (by omega)
      have d9 : wr.cell? ⟨b, o + i * 14 + 9, none⟩ = some (.string rval) := hcell 9 _ rfl (by omega)
      have d11 : wr.cell? ⟨b, o + i * 14 + 11, none⟩ = some (.int .i64 frm) := hcell 11 _ rfl (by omega)
      have d12 : wr.cell? ⟨b, o + i * 14 + 12, none⟩ = some (.int .i64 to) := hcell 12 _ rfl (by omega)
      clear hcell HK
      by_cases h0 : (300 : Int) < (key.size : Int)
      · have p0 : decide ((300 : Int) < (key.size : Int)) = true := decide_eq_true h0
        clear h0 HNX
        go_wp2_with fail
        refine (HA.out _).mono ?_
        rintro e w1 ⟨rfl, hb1⟩
        have HB1 := Lib.hid (HB.out.trans (hb1.mono HB.out.size))
        clear hb1
        go_wp2
        go_ret
        exact ⟨rfl, HB1.out⟩
      · have p0 : decide ((300 : Int) < (key.size : Int)) = false := decide_eq_false h0
        by_cases h1 : (300 : Int) < (val.size : Int)
        · have p1 : decide ((300 : Int) < (val.size : Int)) = true := decide_eq_true h1
          clear h0 h1 HNX
          go_wp2_with fail
          refine (HA.out _).mono ?_
          rintro e w1 ⟨rfl, hb1⟩
          have HB1 := Lib.hid (HB.out.trans (hb1.mono HB.out.size))
          clear hb1
          go_wp2
          go_ret
          exact ⟨rfl, HB1.out⟩
        · have p1 : decide ((300 : Int) < (val.size : Int)) = false := decide_eq_false h1
          by_cases h2 : (300 : Int) < (old.size : Int)
          · have p2 : decide ((300 : Int) < (old.size : Int)) = true := decide_eq_true h2
            clear h0 h1 h2 HNX
            go_wp2_with fail
            refine (HA.out _).mono ?_
            rintro e w1 ⟨rfl, hb1⟩
            have HB1 := Lib.hid (HB.out.trans (hb1.mono HB.out.size))
            clear hb1
            go_wp2
            go_ret
            exact ⟨rfl, HB1.out⟩
          · have p2 : decide ((300 : Int) < (old.size : Int)) = false := decide_eq_false h2
            by_cases h3 : (300 : Int) < (rval.size : Int)
            · have p3 : decide ((300 : Int) < (rval.size : Int)) = true := decide_eq_true h3
              clear h0 h1 h2 h3 HNX
              go_wp2_with fail
              refine (HA.out _).mono ?_
              rintro e w1 ⟨rfl, hb1⟩
              have HB1 := Lib.hid (HB.out.trans (hb1.mono HB.out.size))
              clear hb1
              go_wp2
              go_ret
              exact ⟨rfl, HB1.out⟩
            · have p3 : decide ((300 : Int) < (rval.size : Int)) = false := decide_eq_false h3
              by_cases h4 : frm < -1099511627776
              · have p4 : decide (frm < -1099511627776) = true := decide_eq_true h4
                clear h0 h1 h2 h3 h4 HNX
                go_wp2_with fail
                refine (HA.out _).mono ?_
                rintro e w1 ⟨rfl, hb1⟩
                have HB1 := Lib.hid (HB.out.trans (hb1.mono HB.out.size))
                clear hb1
                go_wp2
                go_ret
                exact ⟨rfl, HB1.out⟩
              · have p4 : decide (frm < -1099511627776) = false := decide_eq_false h4
                by_cases h5 : 1099511627776 < to
                · have p5 : decide (1099511627776 < to) = true := decide_eq_true h5
                  clear h0 h1 h2 h3 h4 h5 HNX
                  go_wp2_with fail
                  refine (HA.out _).mono ?_
                  rintro e w1 ⟨rfl, hb1⟩
                  have HB1 := Lib.hid (HB.out.trans (hb1.mono HB.out.size))
                  clear hb1
                  go_wp2
                  go_ret
                  exact ⟨rfl, HB1.out⟩
                · have p5 : decide (1099511627776 < to) = false := decide_eq_false h5
                  have HK2 : Hid (∀ j, j < i + 1 → SmE (zs.getD j default)) := Lib.hid (HNX.out ⟨by show val.size ≤ 300; omega, by show -1099511627776 ≤ frm; omega, by show to ≤ 1099511627776; omega⟩)
                  clear HNX h0 h1 h2 h3 h4 h5
                  go_wp2
                  go_roundw
                  case rel => exact ⟨i + 1, by omega, by simp, HB, HK2⟩
                  case measure => simp [intOf]; omega
    · obtain rfl : i = n := by omega
      have hltI : ¬ (i : Int) < (i : Int) := by omega
      clear hlt
      have HRr := Lib.hid (HR.out.below HB.out)
      have HKO := HK
      clear HR HK
      by_cases hgd : ∀ j, j < i → GoodE zs j
      · have HGD := Lib.hid hgd
        have HSZ : Hid (∀ j, j < i → (zs.getD j default).val.size ≤ maxLen) := Lib.hid (fun j hj => by
          have := (HKO.out j hj).1
          have : (300 : Nat) ≤ maxLen := by decide
          omega)
        have HL1 := Lib.hid (linear_ok p i c zs wr (HRr.out.more HB.out.size |>.more (Nat.le_refl _)) (by omega) hgd HSZ.out)
        clear hgd
        go_wp2_with fail
        refine HL1.out.mono ?_
        rintro e w1 ⟨⟨rfl, ho⟩ | ⟨rfl, _⟩, hb1⟩
        · have HOR := Lib.hid ho
          have HB1 := Lib.hid (HB.out.trans (hb1.mono HB.out.size))
          have HR1 := Lib.hid (HRr.out.below (hb1.mono HB.out.size) |>.more HB1.out.size)
          clear hb1 ho HL1
          have hzl : zs.length = i := HR1.out.1
          have hev : zs.getD k default ∈ zs := by
            rw [List.getD_eq_getElem?_getD, List.getElem?_eq_getElem (by omega : k < zs.length)]
            exact List.getElem_mem _
          obtain ⟨hof, hot, _⟩ := HO.out _ hev
          obtain ⟨_, hsf, hst⟩ := HKO.out k hkn
          have HLO := Lib.hid (ord_longer zs k x (by omega) hx0 HOR.out)
          have HLG := Lib.hid (good_longer zs k x (by omega) (fun j hj => HGD.out j (by omega)))
          have HLV := Lib.hid (fun j => val_longer zs k x (by omega) j)
          have HRW := Lib.hid (fun g w => row_longer zs k i x g w hkn hzl)
          have HAT := Lib.hid (fun c hc => rowOf_at evc evc_length zs k c (by omega) hc)
          have hff : -1099511627776 ≤ (zs.getD k default).frm ∧ (zs.getD k default).frm ≤ 9223372036854775807 := by
            refine ⟨hsf, ?_⟩
            unfold i64w at hof
            simp only [Lit.wf, Bool.and_eq_true, decide_eq_true_eq] at hof
            exact hof.2
          have htt : -9223372036854775808 ≤ (zs.getD k default).to ∧ (zs.getD k default).to ≤ 1099511627776 := by
            refine ⟨?_, hst⟩
            unfold i64w at hot
            simp only [Lit.wf, Bool.and_eq_true, decide_eq_true_eq] at hot
            exact hot.1
          clear hof hot hsf hst hev HKO HGD HOR HO
          generalize hfrm : (zs.getD k default).frm = frm at *
          generalize hto : (zs.getD k default).to = to at *
          have HFT := Lib.hid (And.intro hfrm hto)
          clear hfrm hto
          obtain ⟨hf0, hf1⟩ := hff
          obtain ⟨ht0, ht1⟩ := htt
          have hb1m := HB1.out.size
          go_wp2_with (at_builtin; refine copy_events rfl _ _ rfl rfl p i c zs rfl HR1.out (by omega) (by omega) ?_; intro v3 w3 hown3 hgr3)
          have hb3 : Below w1.heap.size w1 w3 := (Below.refl w1.heap.size w1).grown hgr3 (Nat.le_refl _) (fun k hk => by cases hk)
          obtain ⟨g, c3, hv3, hg1, hg2, _⟩ := owns_len hown3 (by omega)
          subst hv3
          have hfz : ∀ j, w3.frozen? ⟨g, j, none⟩ = false := fun j => hown3.frozenAt j
          have hR3 : RdG evc w3 w3.heap.size (some ⟨g, 0, none⟩) i zs := RdG.of_own hown3 hzl
          have c11 : w3.cell? ⟨g, k * 14 + 11, none⟩ = some (.int .i64 frm) := by
            obtain ⟨b, o, e, _, hc⟩ := hR3.2 (by omega)
            injection e with e
            injection e with e1 e2 _
            subst e1 e2
            have h9 := HAT.out 11 (by omega)
            have := hc _ _ (h9.trans (by rfl : _ = some (Value.int .i64 (zs.getD k default).frm)))
            rw [Nat.zero_add, HFT.out.1] at this
            exact this
          have c12 : w3.cell? ⟨g, k * 14 + 12, none⟩ = some (.int .i64 to) := by
            obtain ⟨b, o, e, _, hc⟩ := hR3.2 (by omega)
            injection e with e
            injection e with e1 e2 _
            subst e1 e2
            have h9 := HAT.out 12 (by omega)
            have := hc _ _ (h9.trans (by rfl : _ = some (Value.int .i64 (zs.getD k default).to)))
            rw [Nat.zero_add, HFT.out.2] at this
            exact this
          have HR3 := Lib.hid hR3
          have HB3 : Hid (Below w.heap.size w w3) := HB1.out.trans (hb3.mono HB1.out.size)
          have HG9 : Hid (w.heap.size ≤ g ∧ g < w3.heap.size) := Lib.hid ⟨by omega, hg2⟩
          clear hb3 hown3 hgr3 hR3 HR1 HRr HB1 HB hg1 hg2 hb1m
          have hkI : (k : Int) < (i : Int) := by omega
          go_wp2
          go_region
          have hR4 := HRW.out g w3 HR3.out
          have hB4 : Below w.heap.size w ((w3.setCell ⟨g, k * 14 + 11, none⟩ (.int .i64 (frm - x))).setCell ⟨g, k * 14 + 12, none⟩ (.int .i64 (to + x))) := (HB3.out.setCell HG9.out.1 _).setCell HG9.out.1 _
          have hR5 := (hR4.below ((Below.refl _ _).drew)).more (B' := (((w3.setCell ⟨g, k * 14 + 11, none⟩ (.int .i64 (frm - x))).setCell ⟨g, k * 14 + 12, none⟩ (.int .i64 (to + x))).drew).heap.size) (by simp)
          have HB5 := Lib.hid hB4.drew
          clear hR4 hB4 c11 c12 hfz HR3 HB3 HG9 HRW HAT hf0 hf1 ht0 ht1
          generalize ((w3.setCell ⟨g, k * 14 + 11, none⟩ (.int .i64 (frm - x))).setCell ⟨g, k * 14 + 12, none⟩ (.int .i64 (to + x))).drew = w5 at *
          have HL5 := Lib.hid (linear_ok (some ⟨g, 0, none⟩) i c3 (zs.set k (longer (zs.getD k default) x)) w5 hR5 (by omega) (fun j hj => HLG.out j (by omega)) (fun j hj => by rw [HLV.out j]; exact HSZ.out j hj))
          clear hR5
          go_wp2_with fail
          refine HL5.out.mono ?_
          rintro e w6 ⟨⟨rfl, _⟩ | ⟨_, ho⟩, hb6⟩
          · have HB6 := Lib.hid (HB5.out.trans (hb6.mono HB5.out.size))
            clear hb6 HL5
            go_wp2_with fail
            refine (HA.out _).mono ?_
            rintro e w7 ⟨rfl, hb7⟩
            have HB7 := Lib.hid (HB6.out.trans (hb7.mono HB6.out.size))
            clear hb7
            go_wp2
            go_ret
            exact ⟨rfl, HB7.out⟩
          · exact absurd HLO.out ho
        · have HB1 := Lib.hid (HB.out.trans (hb1.mono HB.out.size))
          clear hb1 HL1
          go_wp2_with fail
          refine (HA.out _).mono ?_
          rintro e w2 ⟨rfl, hb2⟩
          have HB2 := Lib.hid (HB1.out.trans (hb2.mono HB1.out.size))
          clear hb2
          go_wp2
          go_ret
          exact ⟨rfl, HB2.out⟩
      · have HBD : Hid (∃ j, j < i ∧ ¬ GoodE zs j) := Lib.hid (by
          apply Classical.byContradiction
          intro hno
          exact hgd (fun j hj => Classical.byContradiction (fun hng => hno ⟨j, hj, hng⟩)))
        have HL1 := Lib.hid (linear_bad p i c zs wr (HRr.out.more HB.out.size |>.more (Nat.le_refl _)) (by omega) HBD.out)
        clear hgd
        go_wp2_with fail
        refine HL1.out.mono ?_
        rintro e w1 ⟨rfl, hb1⟩
        have HB1 := Lib.hid (HB.out.trans (hb1.mono HB.out.size))
        clear hb1 HL1
        go_wp2_with fail
        refine (HA.out _).mono ?_
        rintro e w2 ⟨rfl, hb2⟩
        have HB2 := Lib.hid (HB1.out.trans (hb2.mono HB1.out.size))
        clear hb2
        go_wp2
        go_ret
        exact ⟨rfl, HB2.out⟩

theorem histMore_walk (p : Option Addr) (n c : Nat) (k x : Int) (zs : List Ev) (w : World) (h : RdG evc w w.heap.size p n zs ∧ ∀ z ∈ zs, evok z) :
    Calls Try.prog 4 #[.slice p n c, .int .i64 k, .int .i64 x] w fun e w' => e = .returned (.bool true) ∧ Below w.heap.size w w' := by
  by_cases ho : 6 < n ∨ k < 0 ∨ (n : Int) ≤ k ∨ x < 0 ∨ 1000 < x
  · exact more_out p n c k x w ho
  · obtain ⟨j, rfl⟩ : ∃ j : Nat, k = j := ⟨k.toNat, by omega⟩
    exact more_in p n c j x zs w h.1 h.2 (by omega) (by omega) (by omega) (by omega)
end Go.Proofs.Ytaijjmhannhkcaa
