/- hist's search: may. -/
import Derived.Test.YtaijjmhannhkcaaBy
import Derived.Test.YtaijjmhannhkcaaHBits
namespace Go.Proofs.Ytaijjmhannhkcaa
open Go.RowKit

/-- The search in block sb. -/
structure SrI (sb n need lc mb : Nat) (lp : Option Addr) (L : List Ev) (w : World) : Prop where
  c0 : w.cell? ⟨sb, 0, none⟩ = some (.slice lp n lc)
  c1 : w.cell? ⟨sb, 1, none⟩ = some (.int .i64 need)
  c2 : w.cell? ⟨sb, 2, none⟩ = some (.map (some mb))
  rd : RdG evc w w.heap.size lp n L
theorem SrI.below {sb n need lc mb : Nat} {lp : Option Addr} {L : List Ev} {w w' : World} (h : SrI sb n need lc mb lp L w) (hb : Below w.heap.size w w') : SrI sb n need lc mb lp L w' :=
  ⟨(hb.cell (p := ⟨sb, 0, none⟩) (cell_lt h.c0)).trans h.c0, (hb.cell (p := ⟨sb, 1, none⟩) (cell_lt h.c1)).trans h.c1, (hb.cell (p := ⟨sb, 2, none⟩) (cell_lt h.c2)).trans h.c2, (h.rd.below hb).more hb.size⟩

theorem SrI.ev {sb n need lc mb : Nat} {lp : Option Addr} {L : List Ev} {w : World} (h : SrI sb n need lc mb lp L w) (x : Nat) (hx : x < n) : ∃ b o, lp = some ⟨b, o, none⟩ ∧ ∀ c u, (evc (L.getD x default))[c]? = some u → c < 14 → w.cell? ⟨b, o + x * 14 + c, none⟩ = some u := by
  obtain ⟨b, o, e, _, hc⟩ := ev_cell h.rd x hx
  exact ⟨b, o, e, hc⟩

def MayP (L : List Ev) (need used i : Nat) : Prop := used.testBit i = false ∧ mayM L need used i

set_option maxHeartbeats 8000000 in
set_option maxRecDepth 100000 in
theorem hist_may (sb n need lc mb : Nat) (lp : Option Addr) (L : List Ev) (used i : Nat) (w : World) (h : SrI sb n need lc mb lp L w) (hn : n ≤ 16) (hi : i < n) (hnd : need < 2 ^ 63) (hus : used < 2 ^ 63) (hnb : ∀ j, need.testBit j = true → j < n) :
    Calls Try.prog 31 #[.pointer (some ⟨sb, 0, none⟩), .int .i64 i, .int .i64 used] w fun e w' => ((e = .returned (.bool true) ∧ MayP L need used i) ∨ (e = .returned (.bool false) ∧ ¬ MayP L need used i)) ∧ Below w.heap.size w w' := by
  have HS := Lib.hid h
  have hbi := hb_test used i
  obtain ⟨b, o, elp, _⟩ := h.ev i hi
  subst elp
  have HLN : Hid (L.length = n) := Lib.hid h.rd.1
  have HND : Hid (∀ j, (andN need used).testBit j = (need.testBit j && !used.testBit j)) := Lib.hid (andN_bit need used hnd hus)
  have HAN : Hid (bits .andNot .i64 (need : Int) (used : Int) = ((andN need used : Nat) : Int)) := Lib.hid (hb_andNot need used hnd hus)
  have HHI := Lib.hid hi
  have c0 := h.c0
  have HNB := Lib.hid hnb
  clear hnd hus h hnb
  cases hu : used.testBit i
  · have hq : (bits .and .i64 ((used : Int) / 2 ^ i) 1 == 1) = false := by rw [hbi, hu]; rfl
    have HU := Lib.hid hu
    clear hbi hu
    go_enter Try.func31, Try.ntmps31
    go_wp2
    clear hq c0
    go_loopw [19] (fun iv wr => ∃ j : Nat, j ≤ n ∧ iv = .int .i64 j ∧ Hid (Below w.heap.size w wr ∧ ∀ j', j' < j → need.testBit j' = true → used.testBit j' = false → j' ≠ i → ¬ (L.getD j' default).to < (L.getD i default).frm)) (fun iv _ => n - (intOf iv).toNat)
    case atStart => exact ⟨0, Nat.zero_le _, rfl, Lib.hid ⟨Below.refl _ _, fun j' h => absurd h (Nat.not_lt_zero _)⟩⟩
    case round =>
      obtain ⟨j, hj, rfl, HJ⟩ := hrel
      by_cases hlt : j < n
      · have hltI : (j : Int) < (n : Int) := by omega
        have hiI : (i : Int) < (n : Int) := by omega
        have hSr := HS.out.below HJ.out.1
        obtain ⟨b', o', e', hcell⟩ := hSr.ev j hlt
        injection e' with e'
        injection e' with e1 e2 _
        subst e1 e2
        obtain ⟨b', o', e', hceli⟩ := hSr.ev i HHI.out
        injection e' with e'
        injection e' with e1 e2 _
        subst e1 e2
        have hfi : wr.cell? ⟨b, o + i * 14 + 11, none⟩ = some (.int .i64 (L.getD i default).frm) := hceli 11 _ rfl (by omega)
        have hbj := hb_test (andN need used) j
        rw [HND.out j] at hbj
        clear hceli
        generalize hev : L.getD j default = ev at *
        have d0 : wr.cell? ⟨b, o + j * 14, none⟩ = some (.int .i64 ev.client) := hcell 0 _ rfl (by omega)
        have d1 : wr.cell? ⟨b, o + j * 14 + 1, none⟩ = some (.int .i64 ev.num) := hcell 1 _ rfl (by omega)
        have d2 : wr.cell? ⟨b, o + j * 14 + 2, none⟩ = some (.int .i64 ev.kind) := hcell 2 _ rfl (by omega)
        have d3 : wr.cell? ⟨b, o + j * 14 + 3, none⟩ = some (.int .i64 ev.sess) := hcell 3 _ rfl (by omega)
        have d4 : wr.cell? ⟨b, o + j * 14 + 4, none⟩ = some (.int .i64 ev.sq) := hcell 4 _ rfl (by omega)
        have d5 : wr.cell? ⟨b, o + j * 14 + 5, none⟩ = some (.string ev.key) := hcell 5 _ rfl (by omega)
        have d6 : wr.cell? ⟨b, o + j * 14 + 6, none⟩ = some (.string ev.val) := hcell 6 _ rfl (by omega)
        have d7 : wr.cell? ⟨b, o + j * 14 + 7, none⟩ = some (.string ev.old) := hcell 7 _ rfl (by omega)
        have d8 : wr.cell? ⟨b, o + j * 14 + 8, none⟩ = some (.int .i64 ev.err) := hcell 8 _ rfl (by omega)
        have d9 : wr.cell? ⟨b, o + j * 14 + 9, none⟩ = some (.string ev.rval) := hcell 9 _ rfl (by omega)
        have d10 : wr.cell? ⟨b, o + j * 14 + 10, none⟩ = some (.int .i64 ev.rnum) := hcell 10 _ rfl (by omega)
        have d11 : wr.cell? ⟨b, o + j * 14 + 11, none⟩ = some (.int .i64 ev.frm) := hcell 11 _ rfl (by omega)
        have d12 : wr.cell? ⟨b, o + j * 14 + 12, none⟩ = some (.int .i64 ev.to) := hcell 12 _ rfl (by omega)
        have d13 : wr.cell? ⟨b, o + j * 14 + 13, none⟩ = some (.bool ev.done) := hcell 13 _ rfl (by omega)
        have HFI : Hid (∀ X : World, Below wr.heap.size wr X → X.cell? ⟨b, o + i * 14 + 11, none⟩ = some (.int .i64 (L.getD i default).frm) ∧ X.cell? ⟨sb, 0, none⟩ = some (.slice (some ⟨b, o, none⟩) n lc) ∧ X.cell? ⟨sb, 1, none⟩ = some (.int .i64 need)) := Lib.hid (fun X hX => ⟨(hX.cell (cell_lt hfi)).trans hfi, (hX.cell (cell_lt hSr.c0)).trans hSr.c0, (hX.cell (cell_lt hSr.c1)).trans hSr.c1⟩)
        clear hfi hSr hcell
        have hbn := HAN.out
        have HBW : Hid (∀ {X : World}, Below (wr.alloc (.cells #[.int .i64 ev.client, .int .i64 ev.num, .int .i64 ev.kind, .int .i64 ev.sess, .int .i64 ev.sq, .string ev.key, .string ev.val, .string ev.old, .int .i64 ev.err, .string ev.rval, .int .i64 ev.rnum, .int .i64 ev.frm, .int .i64 ev.to, .bool ev.done] 29)).heap.size (wr.alloc (.cells #[.int .i64 ev.client, .int .i64 ev.num, .int .i64 ev.kind, .int .i64 ev.sess, .int .i64 ev.sq, .string ev.key, .string ev.val, .string ev.old, .int .i64 ev.err, .string ev.rval, .int .i64 ev.rnum, .int .i64 ev.frm, .int .i64 ev.to, .bool ev.done] 29)) X → Below w.heap.size w X) := Lib.hid (fun hX => HJ.out.1.trans ((((Below.refl _ wr).alloc (Nat.le_refl _) _).trans (hX.mono (by simp))).mono HJ.out.1.size))
        have hal : Below wr.heap.size wr (wr.alloc (.cells #[.int .i64 ev.client, .int .i64 ev.num, .int .i64 ev.kind, .int .i64 ev.sess, .int .i64 ev.sq, .string ev.key, .string ev.val, .string ev.old, .int .i64 ev.err, .string ev.rval, .int .i64 ev.rnum, .int .i64 ev.frm, .int .i64 ev.to, .bool ev.done] 29)) := (Below.refl _ wr).alloc (Nat.le_refl _) _
        have hrow := heap_alloc_new wr (.cells #[.int .i64 ev.client, .int .i64 ev.num, .int .i64 ev.kind, .int .i64 ev.sess, .int .i64 ev.sq, .string ev.key, .string ev.val, .string ev.old, .int .i64 ev.err, .string ev.rval, .int .i64 ev.rnum, .int .i64 ev.frm, .int .i64 ev.to, .bool ev.done] 29)
        have qs0 : ∀ q : Later (wr.alloc (.cells #[.int .i64 ev.client, .int .i64 ev.num, .int .i64 ev.kind, .int .i64 ev.sess, .int .i64 ev.sq, .string ev.key, .string ev.val, .string ev.old, .int .i64 ev.err, .string ev.rval, .int .i64 ev.rnum, .int .i64 ev.frm, .int .i64 ev.to, .bool ev.done] 29)), q.1.cell? ⟨sb, 0, none⟩ = some (.slice (some ⟨b, o, none⟩) n lc) := fun q => (HFI.out _ (hal.trans (q.2.mono hal.size))).2.1
        have qs1 : ∀ q : Later (wr.alloc (.cells #[.int .i64 ev.client, .int .i64 ev.num, .int .i64 ev.kind, .int .i64 ev.sess, .int .i64 ev.sq, .string ev.key, .string ev.val, .string ev.old, .int .i64 ev.err, .string ev.rval, .int .i64 ev.rnum, .int .i64 ev.frm, .int .i64 ev.to, .bool ev.done] 29)), q.1.cell? ⟨sb, 1, none⟩ = some (.int .i64 need) := fun q => (HFI.out _ (hal.trans (q.2.mono hal.size))).2.2
        have qi : ∀ q : Later (wr.alloc (.cells #[.int .i64 ev.client, .int .i64 ev.num, .int .i64 ev.kind, .int .i64 ev.sess, .int .i64 ev.sq, .string ev.key, .string ev.val, .string ev.old, .int .i64 ev.err, .string ev.rval, .int .i64 ev.rnum, .int .i64 ev.frm, .int .i64 ev.to, .bool ev.done] 29)), q.1.cell? ⟨b, o + i * 14 + 11, none⟩ = some (.int .i64 (L.getD i default).frm) := fun q => (HFI.out _ (hal.trans (q.2.mono hal.size))).1
        have qt : ∀ q : Later (wr.alloc (.cells #[.int .i64 ev.client, .int .i64 ev.num, .int .i64 ev.kind, .int .i64 ev.sess, .int .i64 ev.sq, .string ev.key, .string ev.val, .string ev.old, .int .i64 ev.err, .string ev.rval, .int .i64 ev.rnum, .int .i64 ev.frm, .int .i64 ev.to, .bool ev.done] 29)), q.1.cell? ⟨wr.heap.size, 12, none⟩ = some (.int .i64 ev.to) := fun q => (q.2.cell (p := ⟨wr.heap.size, 12, none⟩) (by simp)).trans (by rw [cell_of_row _ _ _ _ _ _ hrow]; rfl)
        have HEV := Lib.hid hev
        clear hal hrow hev HFI
        go_wp2
        clear d0 d1 d2 d3 d4 d5 d6 d7 d8 d9 d10 d11 d12 d13
        generalize wr.alloc (.cells #[.int .i64 ev.client, .int .i64 ev.num, .int .i64 ev.kind, .int .i64 ev.sess, .int .i64 ev.sq, .string ev.key, .string ev.val, .string ev.old, .int .i64 ev.err, .string ev.rval, .int .i64 ev.rnum, .int .i64 ev.frm, .int .i64 ev.to, .bool ev.done] 29) = W0 at *
        generalize hfr : (L.getD i default).frm = fi at *
        have HFR := Lib.hid hfr
        clear hfr
        cases hbt : (need.testBit j && !used.testBit j)
        · have hbq : (bits .and .i64 (((andN need used : Nat) : Int) / 2 ^ j) 1 == 1) = false := by rw [hbj, hbt]; rfl
          clear hbj
          refine wp_region_later (by kernel_rfl) (by kernel_rfl) ?_
          repeat (go_big_quiet_step (fail))
          refine wpQuiet_nil ?_
          intro W1 hw'
          obtain ⟨⟨wq, hq9⟩, hw''⟩ := hw'
          subst hw''
          have HB1 := Lib.hid (HBW.out hq9)
          clear qs0 qs1 qi qt hq9
          go_wp2
          go_roundw
          case rel => exact ⟨j + 1, by omega, by simp, Lib.hid ⟨HB1.out, fun j' hj' a1 a2 a3 => by
            rcases Nat.lt_or_ge j' j with h9 | h9
            · have h8 := HJ.out.2 j' h9 a1 a2 a3; have h7 := HFR.out; omega
            · obtain rfl : j' = j := by omega
              rw [a1, a2] at hbt; exact absurd hbt (by decide)⟩⟩
          case measure => simp [intOf]; omega
        · have hbq : (bits .and .i64 (((andN need used : Nat) : Int) / 2 ^ j) 1 == 1) = true := by rw [hbj, hbt]; rfl
          clear hbj
          by_cases hji : j = i
          · have hjq : ((j : Int) != (i : Int)) = false := by rw [hji]; simp
            have HJI := Lib.hid hji
            clear hji
            refine wp_region_later (by kernel_rfl) (by kernel_rfl) ?_
            repeat (go_big_quiet_step (fail))
            refine wpQuiet_nil ?_
            intro W1 hw'
            obtain ⟨⟨wq, hq9⟩, hw''⟩ := hw'
            subst hw''
            have HB1 := Lib.hid (HBW.out hq9)
            clear qs0 qs1 qi qt hq9
            go_wp2
            go_roundw
            case rel => exact ⟨j + 1, by omega, by simp, Lib.hid ⟨HB1.out, fun j' hj' a1 a2 a3 => by
              rcases Nat.lt_or_ge j' j with h9 | h9
              · have h8 := HJ.out.2 j' h9 a1 a2 a3; have h7 := HFR.out; omega
              · obtain rfl : j' = j := by omega
                exact absurd HJI.out a3⟩⟩
            case measure => simp [intOf]; omega
          · have hjq : ((j : Int) != (i : Int)) = true := by simpa using fun e => hji (by omega)
            cases htf : decide (ev.to < fi)
            · refine wp_region_later (by kernel_rfl) (by kernel_rfl) ?_
              repeat (go_big_quiet_step (fail))
              refine wpQuiet_nil ?_
              intro W1 hw'
              obtain ⟨⟨wq, hq9⟩, hw''⟩ := hw'
              subst hw''
              have HB1 := Lib.hid (HBW.out hq9)
              clear qs0 qs1 qi qt hq9
              go_wp2
              go_roundw
              case rel => exact ⟨j + 1, by omega, by simp, Lib.hid ⟨HB1.out, fun j' hj' a1 a2 a3 => by
                rcases Nat.lt_or_ge j' j with h9 | h9
                · have h8 := HJ.out.2 j' h9 a1 a2 a3; have h7 := HFR.out; omega
                · obtain rfl : j' = j := by omega
                  have h6 := of_decide_eq_false htf; have h7 := HFR.out; have h5 := HEV.out; rw [h5]; omega⟩⟩
              case measure => simp [intOf]; omega
            · refine wp_region_later (by kernel_rfl) (by kernel_rfl) ?_
              repeat (go_big_quiet_step (fail))
              refine wpQuiet_nil ?_
              intro W1 hw'
              obtain ⟨⟨wq, hq9⟩, hw''⟩ := hw'
              subst hw''
              have HB1 := Lib.hid (HBW.out hq9)
              clear qs0 qs1 qi qt hq9
              go_wp2
              go_ret
              refine ⟨.inr ⟨rfl, fun h9 => ?_⟩, HB1.out⟩
              have hb2 := hbt
              rw [Bool.and_eq_true, Bool.not_eq_true'] at hb2
              have h8 := h9.2 j hb2.1 hb2.2 hji
              rw [HEV.out] at h8
              have h6 := of_decide_eq_true htf
              have h7 := HFR.out
              omega
      · obtain rfl : j = n := by omega
        have hltI : ¬ (j : Int) < (j : Int) := by omega
        go_wp2
        go_ret
        refine ⟨.inl ⟨rfl, ⟨HU.out, fun j' a1 a2 a3 => ?_⟩⟩, HJ.out.1⟩
        rcases Nat.lt_or_ge j' j with h9 | h9
        · have h8 := HJ.out.2 j' h9 a1 a2 a3; omega
        · exact absurd (HNB.out j' a1) (by omega)
  · have hq : (bits .and .i64 ((used : Int) / 2 ^ i) 1 == 1) = true := by rw [hbi, hu]; rfl
    clear hbi
    go_enter Try.func31, Try.ntmps31
    go_wp2
    go_ret
    exact ⟨.inr ⟨rfl, fun h9 => by have := h9.1; rw [hu] at this; cases this⟩, Below.refl _ _⟩
end Go.Proofs.Ytaijjmhannhkcaa
