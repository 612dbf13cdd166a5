/- hist's search: order. -/
import Derived.Test.YtaijjmhannhkcaaSeen
import Derived.Test.YtaijjmhannhkcaaOrdL
namespace Go.Proofs.Ytaijjmhannhkcaa
open Go.RowKit Go.Maps

/-- What order answers. -/
def OrdR (mb nb T : Nat) (L : List Ev) (used : Nat) (s : HSt) (S : Nat × HSt → Prop) (w : World) (e : Ending) (w' : World) : Prop :=
  ((e = .returned (.bool true) ∧ goM L used s) ∨ (e = .returned (.bool false) ∧ ¬ goM L used s ∧ ∃ S' nb', SeenR mb nb' S' w' ∧ nb' ≤ nb + T ∧ ∀ q, S' q → S q ∨ ¬ goM L q.1 q.2)) ∧ Fr (fun k => k = mb) w w'

theorem OrdR.bool {mb nb T : Nat} {L : List Ev} {used : Nat} {s : HSt} {S : Nat × HSt → Prop} {w w' : World} {e : Ending} (h : OrdR mb nb T L used s S w e w') : ∃ r : Bool, e = .returned (.bool r) ∧ (r = true → goM L used s) ∧ (r = false → ¬ goM L used s ∧ ∃ S' nb', SeenR mb nb' S' w' ∧ nb' ≤ nb + T ∧ ∀ q, S' q → S q ∨ ¬ goM L q.1 q.2) ∧ Fr (fun k => k = mb) w w' := by
  obtain ⟨⟨he, hg⟩ | ⟨he, hg⟩, hF⟩ := h
  · exact ⟨true, he, fun _ => hg, (fun h => by cases h), hF⟩
  · exact ⟨false, he, (fun h => by cases h), fun _ => hg, hF⟩

/-- What is the same in all the calls. -/
structure OrdC (sb n need lc mb : Nat) (lp : Option Addr) (L : List Ev) : Prop where
  n16 : n ≤ 16
  len : L.length = n
  nd : need < 2 ^ 16
  ned : NeedM L need
  vals : ∀ i, i < n → (L.getD i default).val.size ≤ maxLen
  sbm : sb ≠ mb
  lpm : ∀ a, lp = some a → a.block ≠ mb

theorem SrI.fr {sb n need lc mb : Nat} {lp : Option Addr} {L : List Ev} {w w' : World} (h : SrI sb n need lc mb lp L w) (hC : OrdC sb n need lc mb lp L) (hF : Fr (fun k => k = mb) w w') : SrI sb n need lc mb lp L w' := by
  refine ⟨(hF.cell (p := ⟨sb, 0, none⟩) (cell_lt h.c0) hC.sbm).trans h.c0, (hF.cell (p := ⟨sb, 1, none⟩) (cell_lt h.c1) hC.sbm).trans h.c1, (hF.cell (p := ⟨sb, 2, none⟩) (cell_lt h.c2) hC.sbm).trans h.c2, h.rd.1, fun hn => ?_⟩
  obtain ⟨b, o, e, hb, hc⟩ := h.rd.2 hn
  exact ⟨b, o, e, Nat.lt_of_lt_of_le hb hF.size, fun j u hu => (hF.cell (p := ⟨b, o + j, none⟩) hb (by have := hC.lpm _ e; exact this)).trans (hc j u hu)⟩

def OrdG (sb n need lc mb : Nat) (lp : Option Addr) (L : List Ev) (k : Nat) : Prop :=
  ∀ (used : Nat) (s : HSt) (w : World) (nb : Nat) (S : Nat × HSt → Prop), cntU n used = k → used < 2 ^ n → s.2.size ≤ maxLen → SrI sb n need lc mb lp L w → SeenR mb nb S w → Seen L used S → nb + callsT k ≤ 1000000000000000000 →
    Calls Try.prog 18 #[.pointer (some ⟨sb, 0, none⟩), .int .i64 used, .agg #[.bool s.1, .string s.2]] w (OrdR mb nb (callsT k) L used s S w)

theorem wp_join {P : Program} {c : Code} {a : Act} {w : World} {Q : Exit → Act → World → Prop} (a0 : Act) (W0 : World) (h : c.wp P (fun e a W => e = .normal ∧ a = a0 ∧ W = W0) a w) (hq : Q .normal a0 W0) : c.wp P Q a w :=
  Code.wp_mono (by rintro e a W ⟨rfl, rfl, rfl⟩; exact hq) h

set_option maxHeartbeats 8000000 in
set_option maxRecDepth 100000 in
theorem order_step {sb n need lc mb : Nat} {lp : Option Addr} {L : List Ev} (hC : OrdC sb n need lc mb lp L) (k : Nat) (ih : ∀ j, j < k → OrdG sb n need lc mb lp L j) : OrdG sb n need lc mb lp L k := by
  intro used s w nb S hk hu hs hSr hSe hSeen hnb
  obtain ⟨b, v⟩ := s
  have hpw : 2 ^ n ≤ 2 ^ 16 := Nat.pow_le_pow_right (by omega) hC.n16
  have hu16 : used < 65536 := by omega
  have hwf : (Lit.int .i64 (used : Int)).wf = true := by
    have e := wrap64_wf (used : Int)
    rwa [show wrap64 (used : Int) = used by unfold wrap64; omega] at e
  have hnd := hC.nd
  have hbn := hb_andNot need used (by omega) (by omega)
  have hz := andN_zero need used (by omega) (by omega)
  have c0 := hSr.c0
  have c1 := hSr.c1
  have c2 := hSr.c2
  have l0 := cell_lt c0
  by_cases h0 : andN need used = 0
  · have hq : (((andN need used : Nat) : Int) == 0) = true := by rw [h0]; rfl
    have HG : Hid (goM L used (b, v)) := Lib.hid (goM_fin hC.ned (hz.1 h0))
    have HF : Hid (∀ X, Fr (fun k => k = mb) w (w.alloc X)) := Lib.hid (fun X => (Fr.refl _ w).alloc X)
    clear hz h0 hSr hSe hSeen ih hC hpw hwf hnd
    go_enter Try.func18, Try.ntmps18
    go_wp2
    go_ret
    exact ⟨.inl ⟨rfl, HG.out⟩, HF.out _⟩
  · have hq : (((andN need used : Nat) : Int) == 0) = false := beq_false_of_ne (by omega)
    have HNZ : Hid (¬ ∀ j, need.testBit j = true → used.testBit j = true) := Lib.hid (fun h => h0 (hz.2 h))
    obtain ⟨r, hr, hlk⟩ := seen_look hSe used (b, v) hwf hs
    have HR := Lib.hid hr
    have HSE := Lib.hid hSe
    have HSR := Lib.hid hSr
    have HC := Lib.hid hC
    have HIH := Lib.hid ih
    have HSN := Lib.hid hSeen
    have HS := Lib.hid hs
    have HWF := Lib.hid hwf
    have HNB := Lib.hid hnb
    have HK := Lib.hid hk
    have HU := Lib.hid hu
    have hF2 : Fr (fun _ => False) w ((w.alloc (.cells #[.bool b, .string v] 56)).alloc (.cells #[.int .i64 used, .bool b, .string v] 74)).drew := (((Fr.refl _ w).alloc _).alloc _).drew
    have hl2 := hlk _ hF2
    unfold beenV at hl2
    have c2' : (((w.alloc (.cells #[.bool b, .string v] 56)).alloc (.cells #[.int .i64 used, .bool b, .string v] 74)).drew).cell? ⟨sb, 2, none⟩ = some (.map (some mb)) := (hF2.cell (p := ⟨sb, 2, none⟩) l0 (fun h => h)).trans c2
    have hF3 : Fr (fun _ => False) w (((w.alloc (.cells #[.bool b, .string v] 56)).alloc (.cells #[.int .i64 used, .bool b, .string v] 74)).alloc (.cells #[] 75)).drew := ((((Fr.refl _ w).alloc _).alloc _).alloc _).drew
    have hl3 := hlk _ hF3
    unfold beenV at hl3
    have c2'' : ((((w.alloc (.cells #[.bool b, .string v] 56)).alloc (.cells #[.int .i64 used, .bool b, .string v] 74)).alloc (.cells #[] 75)).drew).cell? ⟨sb, 2, none⟩ = some (.map (some mb)) := (hF3.cell (p := ⟨sb, 2, none⟩) l0 (fun h => h)).trans c2
    have HF3 := Lib.hid hF3
    clear hz h0 hSr hSe hSeen ih hC hpw hwf hnd hr hlk hs hk hnb hF2 hF3
    go_enter Try.func18, Try.ntmps18
    go_wp2
    apply wp_join
    case h =>
      go_region
      all_goals exact ⟨rfl, rfl, rfl⟩
    have x0 : ((((w.alloc (.cells #[.bool b, .string v] 56)).alloc (.cells #[.int .i64 used, .bool b, .string v] 74)).alloc (.cells #[] 75)).drew).cell? ⟨w.heap.size, 0, none⟩ = some (.bool b) := by go_simp
    have x1 : ((((w.alloc (.cells #[.bool b, .string v] 56)).alloc (.cells #[.int .i64 used, .bool b, .string v] 74)).alloc (.cells #[] 75)).drew).cell? ⟨w.heap.size, 1, none⟩ = some (.string v) := by go_simp
    have y0 : ((((w.alloc (.cells #[.bool b, .string v] 56)).alloc (.cells #[.int .i64 used, .bool b, .string v] 74)).alloc (.cells #[] 75)).drew).cell? ⟨w.heap.size + 1, 0, none⟩ = some (.int .i64 used) := by go_simp
    have y1 : ((((w.alloc (.cells #[.bool b, .string v] 56)).alloc (.cells #[.int .i64 used, .bool b, .string v] 74)).alloc (.cells #[] 75)).drew).cell? ⟨w.heap.size + 1, 1, none⟩ = some (.bool b) := by go_simp
    have y2 : ((((w.alloc (.cells #[.bool b, .string v] 56)).alloc (.cells #[.int .i64 used, .bool b, .string v] 74)).alloc (.cells #[] 75)).drew).cell? ⟨w.heap.size + 1, 2, none⟩ = some (.string v) := by go_simp
    clear hl2 hl3 c2'
    generalize (((w.alloc (.cells #[.bool b, .string v] 56)).alloc (.cells #[.int .i64 used, .bool b, .string v] 74)).alloc (.cells #[] 75)).drew = w3 at *
    cases r
    · have hs3 := HF3.out.size
      have hSe3 : SeenR mb nb S w3.drew := (HSE.out.keep HF3.out.drew (fun h => h))
      obtain ⟨w4, hup, hS4, hF4'⟩ := seen_put hSe3 used (b, v) HWF.out HS.out (by have := HNB.out; unfold maxLen; omega)
      have hF4 : Fr (fun k => k = mb) w3 w4 := Fr.trans ((Fr.refl (fun k => k = mb) w3).drew) hF4' (fun i h _ => h)
      clear hF4'
      unfold beenV at hup
      have HS4 := Lib.hid hS4
      have HF4 : Hid (Fr (fun k => k = mb) w3 w4) := Lib.hid hF4
      have hmb : mb < w.heap.size := HSE.out.lt
      have hl8 : w3.heap.size ≤ w4.heap.size := hF4.size
      have hx : w.heap.size + 2 ≤ w3.heap.size := by
        have := cell_lt y0
        change w.heap.size + 1 < _ at this
        omega
      have HX : Hid (w4.cell? ⟨w.heap.size, 0, none⟩ = some (.bool b) ∧ w4.cell? ⟨w.heap.size, 1, none⟩ = some (.string v)) := Lib.hid ⟨(hF4.cell (p := ⟨w.heap.size, 0, none⟩) (by show w.heap.size < w3.heap.size; omega) (fun e => by have e : w.heap.size = mb := e; omega)).trans x0, (hF4.cell (p := ⟨w.heap.size, 1, none⟩) (by show w.heap.size < w3.heap.size; omega) (fun e => by have e : w.heap.size = mb := e; omega)).trans x1⟩
      have HSR4 : Hid (SrI sb n need lc mb lp L w4) := Lib.hid ((HSR.out.fr HC.out (HF3.out.mono (fun _ _ h => h.elim))).fr HC.out hF4)
      clear hS4 hF4 hSe3
      go_wp2
      apply wp_join
      case h =>
        go_region
        all_goals exact ⟨rfl, rfl, rfl⟩
      have c0w := HSR4.out.c0
      have HMB := Lib.hid hmb
      have HFW : Hid (Fr (fun k => k = mb) w w4) := Lib.hid (Fr.trans (HF3.out.mono (fun _ _ h => h.elim)) HF4.out (fun i h _ => h))
      clear x0 x1 y0 y1 y2 c2'' hup hl8 hx hmb c0 c1 c2 l0 hs3
      have hn16 := HC.out.n16
      go_wp2
      go_loopw [45] (fun iv wr => ∃ j : Nat, j ≤ n ∧ iv = .int .i64 j ∧ ∃ S' nb', Hid (SeenR mb nb' S' wr ∧ nb' ≤ nb + 1 + cntU j used * callsT (k - 1) ∧ (∀ q, S' q → S q ∨ q = (used, (b, v)) ∨ ¬ goM L q.1 q.2) ∧ (∀ i, i < j → ¬ leadsM L need used (b, v) i) ∧ Fr (fun k => k = mb) w4 wr)) (fun iv _ => n - (intOf iv).toNat)
      case atStart => exact ⟨0, Nat.zero_le _, rfl, _, nb + 1, Lib.hid ⟨HS4.out, by unfold cntU; omega, fun q h => by
        rcases h with h | h
        · exact .inr (.inl h)
        · exact .inl h, fun i h => absurd h (Nat.not_lt_zero _), Fr.refl _ _⟩⟩
      case round =>
        obtain ⟨j, hj, rfl, S5, nb5, HJ⟩ := hrel
        by_cases hlt : j < n
        · have hltI : (j : Int) < (n : Int) := by omega
          have hSr : SrI sb n need lc mb lp L wr := HSR4.out.fr HC.out HJ.out.2.2.2.2
          obtain ⟨bb, oo, elp, hcell⟩ := hSr.ev j hlt
          have hvsz := HC.out.vals j hlt
          generalize hev : L.getD j default = ev at *
          have HEV := Lib.hid hev
          have HSRr := Lib.hid hSr
          have HVSZ := Lib.hid hvsz
          subst elp
          have d0 : wr.cell? ⟨bb, oo + j * 14, none⟩ = some (.int .i64 ev.client) := hcell 0 _ rfl (by omega)
          have d1 : wr.cell? ⟨bb, oo + j * 14 + 1, none⟩ = some (.int .i64 ev.num) := hcell 1 _ rfl (by omega)
          have d2 : wr.cell? ⟨bb, oo + j * 14 + 2, none⟩ = some (.int .i64 ev.kind) := hcell 2 _ rfl (by omega)
          have d3 : wr.cell? ⟨bb, oo + j * 14 + 3, none⟩ = some (.int .i64 ev.sess) := hcell 3 _ rfl (by omega)
          have d4 : wr.cell? ⟨bb, oo + j * 14 + 4, none⟩ = some (.int .i64 ev.sq) := hcell 4 _ rfl (by omega)
          have d5 : wr.cell? ⟨bb, oo + j * 14 + 5, none⟩ = some (.string ev.key) := hcell 5 _ rfl (by omega)
          have d6 : wr.cell? ⟨bb, oo + j * 14 + 6, none⟩ = some (.string ev.val) := hcell 6 _ rfl (by omega)
          have d7 : wr.cell? ⟨bb, oo + j * 14 + 7, none⟩ = some (.string ev.old) := hcell 7 _ rfl (by omega)
          have d8 : wr.cell? ⟨bb, oo + j * 14 + 8, none⟩ = some (.int .i64 ev.err) := hcell 8 _ rfl (by omega)
          have d9 : wr.cell? ⟨bb, oo + j * 14 + 9, none⟩ = some (.string ev.rval) := hcell 9 _ rfl (by omega)
          have d10 : wr.cell? ⟨bb, oo + j * 14 + 10, none⟩ = some (.int .i64 ev.rnum) := hcell 10 _ rfl (by omega)
          have d11 : wr.cell? ⟨bb, oo + j * 14 + 11, none⟩ = some (.int .i64 ev.frm) := hcell 11 _ rfl (by omega)
          have d12 : wr.cell? ⟨bb, oo + j * 14 + 12, none⟩ = some (.int .i64 ev.to) := hcell 12 _ rfl (by omega)
          have d13 : wr.cell? ⟨bb, oo + j * 14 + 13, none⟩ = some (.bool ev.done) := hcell 13 _ rfl (by omega)
          clear hev hSr hcell hvsz c0w
          go_wp2_with fail
          have hrow := heap_alloc_new wr (.cells #[.int .i64 ev.client, .int .i64 ev.num, .int .i64 ev.kind, .int .i64 ev.sess, .int .i64 ev.sq, .string ev.key, .string ev.val, .string ev.old, .int .i64 ev.err, .string ev.rval, .int .i64 ev.rnum, .int .i64 ev.frm, .int .i64 ev.to, .bool ev.done] 29)
          have hal : Below wr.heap.size wr (wr.alloc (.cells #[.int .i64 ev.client, .int .i64 ev.num, .int .i64 ev.kind, .int .i64 ev.sess, .int .i64 ev.sq, .string ev.key, .string ev.val, .string ev.old, .int .i64 ev.err, .string ev.rval, .int .i64 ev.rnum, .int .i64 ev.frm, .int .i64 ev.to, .bool ev.done] 29)) := (Below.refl _ wr).alloc (Nat.le_refl _) _
          have hsa : (wr.alloc (.cells #[.int .i64 ev.client, .int .i64 ev.num, .int .i64 ev.kind, .int .i64 ev.sess, .int .i64 ev.sq, .string ev.key, .string ev.val, .string ev.old, .int .i64 ev.err, .string ev.rval, .int .i64 ev.rnum, .int .i64 ev.frm, .int .i64 ev.to, .bool ev.done] 29)).heap.size = wr.heap.size + 1 := by simp
          have HMY := Lib.hid (hist_may sb n need lc mb (some ⟨bb, oo, none⟩) L used j _ (HSRr.out.below hal) HC.out.n16 hlt (by have := HC.out.nd; omega) (by omega) (fun i hi => by rw [← HC.out.len]; exact ((HC.out.ned i).1 hi).1))
          have HKP : Hid (∀ W, Below (wr.alloc (.cells #[.int .i64 ev.client, .int .i64 ev.num, .int .i64 ev.kind, .int .i64 ev.sess, .int .i64 ev.sq, .string ev.key, .string ev.val, .string ev.old, .int .i64 ev.err, .string ev.rval, .int .i64 ev.rnum, .int .i64 ev.frm, .int .i64 ev.to, .bool ev.done] 29)).heap.size (wr.alloc (.cells #[.int .i64 ev.client, .int .i64 ev.num, .int .i64 ev.kind, .int .i64 ev.sess, .int .i64 ev.sq, .string ev.key, .string ev.val, .string ev.old, .int .i64 ev.err, .string ev.rval, .int .i64 ev.rnum, .int .i64 ev.frm, .int .i64 ev.to, .bool ev.done] 29)) W → (∀ k u, #[.int .i64 ev.client, .int .i64 ev.num, .int .i64 ev.kind, .int .i64 ev.sess, .int .i64 ev.sq, .string ev.key, .string ev.val, .string ev.old, .int .i64 ev.err, .string ev.rval, .int .i64 ev.rnum, .int .i64 ev.frm, .int .i64 ev.to, .bool ev.done][k]? = some u → W.cell? ⟨wr.heap.size, k, none⟩ = some u) ∧ W.cell? ⟨w.heap.size, 0, none⟩ = some (.bool b) ∧ W.cell? ⟨w.heap.size, 1, none⟩ = some (.string v) ∧ SrI sb n need lc mb (some ⟨bb, oo, none⟩) L W ∧ SeenR mb nb5 S5 W ∧ Fr (fun k => k = mb) w4 W) := Lib.hid (fun W hW => by
            have hwr : Below wr.heap.size wr W := hal.trans (hW.mono hal.size)
            have hlx := cell_lt HX.out.1
            have hls := HJ.out.2.2.2.2.size
            have hmb := HMB.out
            change w.heap.size < _ at hlx
            refine ⟨fun k u hu => (hW.cell (p := ⟨wr.heap.size, k, none⟩) (by show wr.heap.size < _; omega)).trans (by rw [cell_of_row _ _ _ _ _ _ hrow]; exact hu), ?_, ?_, HSRr.out.below hwr, HJ.out.1.keep (Fr.of_all (S := fun _ => False) hwr) (fun h => h), Fr.trans HJ.out.2.2.2.2 (Fr.of_all (S := fun k => k = mb) hwr) (fun i h _ => h)⟩
            · exact (hwr.cell (p := ⟨w.heap.size, 0, none⟩) (by show w.heap.size < _; omega)).trans ((HJ.out.2.2.2.2.cell (p := ⟨w.heap.size, 0, none⟩) hlx (fun e => by have e : w.heap.size = mb := e; omega)).trans HX.out.1)
            · exact (hwr.cell (p := ⟨w.heap.size, 1, none⟩) (by show w.heap.size < _; omega)).trans ((HJ.out.2.2.2.2.cell (p := ⟨w.heap.size, 1, none⟩) hlx (fun e => by have e : w.heap.size = mb := e; omega)).trans HX.out.2))
          have HSA := Lib.hid hsa
          clear hrow hal hsa d0 d1 d2 d3 d4 d5 d6 d7 d8 d9 d10 d11 d12 d13
          refine HMY.out.mono ?_
          rintro e w5 ⟨hmay, hb5⟩
          have HB5 := Lib.hid hb5
          generalize (wr.alloc (.cells #[.int .i64 ev.client, .int .i64 ev.num, .int .i64 ev.kind, .int .i64 ev.sess, .int .i64 ev.sq, .string ev.key, .string ev.val, .string ev.old, .int .i64 ev.err, .string ev.rval, .int .i64 ev.rnum, .int .i64 ev.frm, .int .i64 ev.to, .bool ev.done] 29)) = wa at *
          clear hb5 HMY
          rcases hmay with ⟨rfl, hmay⟩ | ⟨rfl, hmay⟩
          · have HMP : Hid (MayP L need used j) := Lib.hid hmay
            have HK5 := Lib.hid (HKP.out _ HB5.out)
            have x0 := HK5.out.2.1
            have x1 := HK5.out.2.2.1
            have e2 : (w5).cell? ⟨wr.heap.size, 2, none⟩ = some (.int .i64 ev.kind) := HK5.out.1 2 _ rfl
            have e3 : (w5).cell? ⟨wr.heap.size, 3, none⟩ = some (.int .i64 ev.sess) := HK5.out.1 3 _ rfl
            have e4 : (w5).cell? ⟨wr.heap.size, 4, none⟩ = some (.int .i64 ev.sq) := HK5.out.1 4 _ rfl
            have e5 : (w5).cell? ⟨wr.heap.size, 5, none⟩ = some (.string ev.key) := HK5.out.1 5 _ rfl
            have e6 : (w5).cell? ⟨wr.heap.size, 6, none⟩ = some (.string ev.val) := HK5.out.1 6 _ rfl
            have e7 : (w5).cell? ⟨wr.heap.size, 7, none⟩ = some (.string ev.old) := HK5.out.1 7 _ rfl
            have HDO := Lib.hid (hist_do b v ev w5)
            have hcj : cntU n (nextM used j) = k - 1 ∧ 0 < k ∧ cntU (j + 1) used = cntU j used + 1 ∧ cntU (j + 1) used ≤ k := by
              have h1 := cntU_next n used j hlt hmay.1
              have h2 : cntU (j + 1) used = cntU j used + 1 := by
                show cntU j used + (if used.testBit j = true then 0 else 1) = _
                rw [if_neg (by rw [hmay.1]; decide)]
              have h3 := cntU_mono (show j + 1 ≤ n by omega) used
              have h4 := HK.out
              exact ⟨by omega, by omega, h2, by omega⟩
            have HCJ := Lib.hid hcj
            clear hmay hcj
            go_wp2_with fail
            refine HDO.out.mono ?_
            rintro e w6 ⟨rfl, hb6⟩
            have hvz := doE_size (s := (b, v)) HS.out HVSZ.out
            have hlead : ∀ i1 i2, (ev.sure = true → (doE (b, v) ev).2 = (ev.err, ev.rval)) → goM L (nextM used j) (doE (b, v) ev).1 → i1 = 0 → i2 = 0 → leadsM L need used (b, v) j := fun _ _ h1 h2 _ _ => ⟨HMP.out.1, HMP.out.2, by rw [HEV.out]; exact h1, by rw [HEV.out]; exact h2⟩
            have hnlead : (leadsM L need used (b, v) j) → (ev.sure = true → (doE (b, v) ev).2 = (ev.err, ev.rval)) ∧ goM L (nextM used j) (doE (b, v) ev).1 := fun h => by
              have h3 := h.2.2
              rw [HEV.out] at h3
              exact h3
            have HLEAD := Lib.hid (fun h1 h2 => hlead 0 0 h1 h2 rfl rfl)
            have HNLEAD := Lib.hid hnlead
            have HVZ := Lib.hid hvz
            clear hlead hnlead hvz HDO x0 x1 e2 e3 e4 e5 e6 e7
            generalize doE (b, v) ev = de at *
            obtain ⟨⟨b2, v2⟩, er2, rv2⟩ := de
            have hb56 : Below wa.heap.size wa w6 := HB5.out.trans (hb6.mono HB5.out.size)
            have hb7 : Below wa.heap.size wa ((w6.alloc (.cells #[.bool b2, .string v2] 56)).alloc (.cells #[.int .i64 er2, .string rv2, .int .i64 0] 27)) := (hb56.alloc hb56.size _).alloc (by have := hb56.size; simp; omega) _
            have HB7 := Lib.hid hb7
            have hk7 := HKP.out _ hb7
            have HSU := Lib.hid (hist_sure ev ((w6.alloc (.cells #[.bool b2, .string v2] 56)).alloc (.cells #[.int .i64 er2, .string rv2, .int .i64 0] 27)))
            have f0 : ((w6.alloc (.cells #[.bool b2, .string v2] 56)).alloc (.cells #[.int .i64 er2, .string rv2, .int .i64 0] 27)).cell? ⟨wr.heap.size, 0, none⟩ = some (.int .i64 ev.client) := hk7.1 0 _ rfl
            have f1 : ((w6.alloc (.cells #[.bool b2, .string v2] 56)).alloc (.cells #[.int .i64 er2, .string rv2, .int .i64 0] 27)).cell? ⟨wr.heap.size, 1, none⟩ = some (.int .i64 ev.num) := hk7.1 1 _ rfl
            have f2 : ((w6.alloc (.cells #[.bool b2, .string v2] 56)).alloc (.cells #[.int .i64 er2, .string rv2, .int .i64 0] 27)).cell? ⟨wr.heap.size, 2, none⟩ = some (.int .i64 ev.kind) := hk7.1 2 _ rfl
            have f3 : ((w6.alloc (.cells #[.bool b2, .string v2] 56)).alloc (.cells #[.int .i64 er2, .string rv2, .int .i64 0] 27)).cell? ⟨wr.heap.size, 3, none⟩ = some (.int .i64 ev.sess) := hk7.1 3 _ rfl
            have f4 : ((w6.alloc (.cells #[.bool b2, .string v2] 56)).alloc (.cells #[.int .i64 er2, .string rv2, .int .i64 0] 27)).cell? ⟨wr.heap.size, 4, none⟩ = some (.int .i64 ev.sq) := hk7.1 4 _ rfl
            have f5 : ((w6.alloc (.cells #[.bool b2, .string v2] 56)).alloc (.cells #[.int .i64 er2, .string rv2, .int .i64 0] 27)).cell? ⟨wr.heap.size, 5, none⟩ = some (.string ev.key) := hk7.1 5 _ rfl
            have f6 : ((w6.alloc (.cells #[.bool b2, .string v2] 56)).alloc (.cells #[.int .i64 er2, .string rv2, .int .i64 0] 27)).cell? ⟨wr.heap.size, 6, none⟩ = some (.string ev.val) := hk7.1 6 _ rfl
            have f7 : ((w6.alloc (.cells #[.bool b2, .string v2] 56)).alloc (.cells #[.int .i64 er2, .string rv2, .int .i64 0] 27)).cell? ⟨wr.heap.size, 7, none⟩ = some (.string ev.old) := hk7.1 7 _ rfl
            have f8 : ((w6.alloc (.cells #[.bool b2, .string v2] 56)).alloc (.cells #[.int .i64 er2, .string rv2, .int .i64 0] 27)).cell? ⟨wr.heap.size, 8, none⟩ = some (.int .i64 ev.err) := hk7.1 8 _ rfl
            have f9 : ((w6.alloc (.cells #[.bool b2, .string v2] 56)).alloc (.cells #[.int .i64 er2, .string rv2, .int .i64 0] 27)).cell? ⟨wr.heap.size, 9, none⟩ = some (.string ev.rval) := hk7.1 9 _ rfl
            have f10 : ((w6.alloc (.cells #[.bool b2, .string v2] 56)).alloc (.cells #[.int .i64 er2, .string rv2, .int .i64 0] 27)).cell? ⟨wr.heap.size, 10, none⟩ = some (.int .i64 ev.rnum) := hk7.1 10 _ rfl
            have f11 : ((w6.alloc (.cells #[.bool b2, .string v2] 56)).alloc (.cells #[.int .i64 er2, .string rv2, .int .i64 0] 27)).cell? ⟨wr.heap.size, 11, none⟩ = some (.int .i64 ev.frm) := hk7.1 11 _ rfl
            have f12 : ((w6.alloc (.cells #[.bool b2, .string v2] 56)).alloc (.cells #[.int .i64 er2, .string rv2, .int .i64 0] 27)).cell? ⟨wr.heap.size, 12, none⟩ = some (.int .i64 ev.to) := hk7.1 12 _ rfl
            have f13 : ((w6.alloc (.cells #[.bool b2, .string v2] 56)).alloc (.cells #[.int .i64 er2, .string rv2, .int .i64 0] 27)).cell? ⟨wr.heap.size, 13, none⟩ = some (.bool ev.done) := hk7.1 13 _ rfl
            have HR7 : Hid (∀ W, Below ((w6.alloc (.cells #[.bool b2, .string v2] 56)).alloc (.cells #[.int .i64 er2, .string rv2, .int .i64 0] 27)).heap.size ((w6.alloc (.cells #[.bool b2, .string v2] 56)).alloc (.cells #[.int .i64 er2, .string rv2, .int .i64 0] 27)) W → W.cell? ⟨w6.heap.size, 0, none⟩ = some (.bool b2) ∧ W.cell? ⟨w6.heap.size, 1, none⟩ = some (.string v2) ∧ W.cell? ⟨w6.heap.size + 1, 0, none⟩ = some (.int .i64 er2) ∧ W.cell? ⟨w6.heap.size + 1, 1, none⟩ = some (.string rv2)) := Lib.hid (fun W hW => ⟨(hW.cell (p := ⟨w6.heap.size, 0, none⟩) (by simp; omega)).trans (by go_simp), (hW.cell (p := ⟨w6.heap.size, 1, none⟩) (by simp; omega)).trans (by go_simp), (hW.cell (p := ⟨w6.heap.size + 1, 0, none⟩) (by simp)).trans (by go_simp), (hW.cell (p := ⟨w6.heap.size + 1, 1, none⟩) (by simp)).trans (by go_simp)⟩)
            clear hb56 hb7 hb6 hk7
            go_wp2_with fail
            refine HSU.out.mono ?_
            rintro e w8 ⟨rfl, hb8⟩
            have r8 := HR7.out _ hb8
            have K8 := Lib.hid (HKP.out _ (HB7.out.trans (hb8.mono HB7.out.size)))
            have s0 := r8.1
            have s1 := r8.2.1
            have s2 := r8.2.2.1
            have s3 := r8.2.2.2
            have s4 : w8.cell? ⟨wr.heap.size, 8, none⟩ = some (.int .i64 ev.err) := K8.out.1 8 _ rfl
            have s5 : w8.cell? ⟨wr.heap.size, 9, none⟩ = some (.string ev.rval) := K8.out.1 9 _ rfl
            clear f0 f1 f2 f3 f4 f5 f6 f7 f8 f9 f10 f11 f12 f13 r8 hb8 HKP HR7 HSU HB7
            by_cases hM : ev.sure = true → (er2, rv2) = (ev.err, ev.rval)
            · have HM := Lib.hid hM
              have HREC : Hid (∀ W, Fr (fun _ => False) w8 W → Calls Try.prog 18 #[.pointer (some ⟨sb, 0, none⟩), .int .i64 (nextM used j : Nat), .agg #[.bool b2, .string v2]] W (OrdR mb nb5 (callsT (k - 1)) L (nextM used j) (b2, v2) S5 W)) := Lib.hid (fun W hW => by
                refine HIH.out (k - 1) (by have := HCJ.out.2.1; omega) (nextM used j) (b2, v2) W nb5 S5 HCJ.out.1 (nextM_bound HU.out hlt) HVZ.out (K8.out.2.2.2.1.fr HC.out (hW.mono (fun _ _ h => h.elim))) (K8.out.2.2.2.2.1.keep hW (fun h => h)) (fun q hq => ?_) ?_
                · have hlt2 := nextM_lt HMP.out.1
                  rcases HJ.out.2.2.1 q hq with h1 | rfl | h1
                  · rcases HSN.out q h1 with h2 | h2
                    · exact .inl h2
                    · exact .inr (by omega)
                  · exact .inr hlt2
                  · exact .inl h1
                · have h1 := HJ.out.2.1
                  have h2 := HNB.out
                  have h3 := callsT_pred k
                  have h4 := Nat.mul_le_mul_right (callsT (k - 1)) HCJ.out.2.2.2
                  rw [HCJ.out.2.2.1, Nat.succ_mul] at h4
                  omega)
              have hb : ev.sure = false ∨ (ev.sure = true ∧ er2 = ev.err ∧ rv2 = ev.rval) := by
                cases hsu : ev.sure
                · exact .inl rfl
                · have h9 := hM hsu
                  injection h9 with h9 h10
                  exact .inr ⟨rfl, h9, h10⟩
              have hor := hb_next used j (by omega) (by omega)
              clear hM
              rcases hb with hsu | ⟨hsu, he, hv⟩
              · go_wp2
                go_region_with (go_at_call 18; refine (HREC.out _ ((Fr.refl _ w8).drew)).mono ?_; rintro e w10 hres; obtain ⟨r10, rfl, ht10, hf10, hF10⟩ := hres.bool; clear hres; have HT10 := Lib.hid ht10; have HF10 := Lib.hid hf10; have HFR := Lib.hid hF10; clear ht10 hf10 hF10)
                all_goals
                  have HFX : Hid (Fr (fun k => k = mb) w4 w10) := Lib.hid (Fr.trans K8.out.2.2.2.2.2 (Fr.trans ((Fr.refl (fun k => k = mb) w8).drew) HFR.out (fun i h _ => h)) (fun i h _ => h))
                  cases r10
                  · have HNG : Hid (¬ leadsM L need used (b, v) j) := Lib.hid (fun h => (HF10.out rfl).1 (HNLEAD.out h).2)
                    obtain ⟨S10, nb10, hs10, hn10, hq10⟩ := (HF10.out rfl).2
                    have HS10 := Lib.hid hs10
                    have HQ10 := Lib.hid hq10
                    have HN10 := Lib.hid hn10
                    clear hs10 hn10 hq10 HREC
                    go_wp2
                    go_roundw
                    case rel => exact ⟨j + 1, by omega, by simp, S10, nb10, Lib.hid ⟨HS10.out, by
                      have h1 := HJ.out.2.1
                      have h2 := HN10.out
                      rw [HCJ.out.2.2.1, Nat.succ_mul]
                      omega, fun q hq => by
                      rcases HQ10.out q hq with h1 | h1
                      · exact HJ.out.2.2.1 q h1
                      · exact .inr (.inr h1), fun i hi => by
                      rcases Nat.lt_or_ge i j with h9 | h9
                      · exact HJ.out.2.2.2.1 i h9
                      · obtain rfl : i = j := by omega
                        exact HNG.out, HFX.out⟩⟩
                    case measure => simp [intOf]; omega
                  · have HG : Hid (goM L used (b, v)) := Lib.hid (goM_lead HC.out.ned (by rw [HC.out.len]; exact hlt) (HLEAD.out HM.out (HT10.out rfl)))
                    clear HREC
                    go_wp2
                    go_ret
                    exact ⟨.inl ⟨rfl, HG.out⟩, Fr.trans HFW.out HFX.out (fun i h _ => h)⟩
              · subst he
                subst hv
                go_wp2
                go_region_with (go_at_call 18; refine (HREC.out _ ((Fr.refl _ w8).drew)).mono ?_; rintro e w10 hres; obtain ⟨r10, rfl, ht10, hf10, hF10⟩ := hres.bool; clear hres; have HT10 := Lib.hid ht10; have HF10 := Lib.hid hf10; have HFR := Lib.hid hF10; clear ht10 hf10 hF10)
                all_goals
                  have HFX : Hid (Fr (fun k => k = mb) w4 w10) := Lib.hid (Fr.trans K8.out.2.2.2.2.2 (Fr.trans ((Fr.refl (fun k => k = mb) w8).drew) HFR.out (fun i h _ => h)) (fun i h _ => h))
                  cases r10
                  · have HNG : Hid (¬ leadsM L need used (b, v) j) := Lib.hid (fun h => (HF10.out rfl).1 (HNLEAD.out h).2)
                    obtain ⟨S10, nb10, hs10, hn10, hq10⟩ := (HF10.out rfl).2
                    have HS10 := Lib.hid hs10
                    have HQ10 := Lib.hid hq10
                    have HN10 := Lib.hid hn10
                    clear hs10 hn10 hq10 HREC
                    go_wp2
                    go_roundw
                    case rel => exact ⟨j + 1, by omega, by simp, S10, nb10, Lib.hid ⟨HS10.out, by
                      have h1 := HJ.out.2.1
                      have h2 := HN10.out
                      rw [HCJ.out.2.2.1, Nat.succ_mul]
                      omega, fun q hq => by
                      rcases HQ10.out q hq with h1 | h1
                      · exact HJ.out.2.2.1 q h1
                      · exact .inr (.inr h1), fun i hi => by
                      rcases Nat.lt_or_ge i j with h9 | h9
                      · exact HJ.out.2.2.2.1 i h9
                      · obtain rfl : i = j := by omega
                        exact HNG.out, HFX.out⟩⟩
                    case measure => simp [intOf]; omega
                  · have HG : Hid (goM L used (b, v)) := Lib.hid (goM_lead HC.out.ned (by rw [HC.out.len]; exact hlt) (HLEAD.out HM.out (HT10.out rfl)))
                    clear HREC
                    go_wp2
                    go_ret
                    exact ⟨.inl ⟨rfl, HG.out⟩, Fr.trans HFW.out HFX.out (fun i h _ => h)⟩
            · have HNM := Lib.hid hM
              cases hsu : ev.sure
              · exact absurd (fun h => by rw [hsu] at h; cases h) hM
              · by_cases he : er2 = ev.err
                · have hv : (rv2.toList == ev.rval.toList) = false := str_ne (fun e => hM (fun _ => by rw [he, e]))
                  clear hM
                  subst he
                  go_wp2
                  go_roundw
                  case rel => exact ⟨j + 1, by omega, by simp, S5, nb5, Lib.hid ⟨K8.out.2.2.2.2.1, Nat.le_trans HJ.out.2.1 (by have := Nat.mul_le_mul_right (callsT (k - 1)) (cntU_mono (Nat.le_add_right j 1) used); omega), HJ.out.2.2.1, fun i hi => by
                    rcases Nat.lt_or_ge i j with h9 | h9
                    · exact HJ.out.2.2.2.1 i h9
                    · obtain rfl : i = j := by omega
                      exact fun h => HNM.out (HNLEAD.out h).1, K8.out.2.2.2.2.2⟩⟩
                  case measure => simp [intOf]; omega
                · have he2 : decide (er2 = ev.err) = false := decide_eq_false he
                  clear hM
                  go_wp2
                  go_roundw
                  case rel => exact ⟨j + 1, by omega, by simp, S5, nb5, Lib.hid ⟨K8.out.2.2.2.2.1, Nat.le_trans HJ.out.2.1 (by have := Nat.mul_le_mul_right (callsT (k - 1)) (cntU_mono (Nat.le_add_right j 1) used); omega), HJ.out.2.2.1, fun i hi => by
                    rcases Nat.lt_or_ge i j with h9 | h9
                    · exact HJ.out.2.2.2.1 i h9
                    · obtain rfl : i = j := by omega
                      exact fun h => HNM.out (HNLEAD.out h).1, K8.out.2.2.2.2.2⟩⟩
                  case measure => simp [intOf]; omega
          · have HN : Hid (¬ leadsM L need used (b, v) j) := Lib.hid (fun h => hmay ⟨h.1, h.2.1⟩)
            have HK5 := Lib.hid (HKP.out _ HB5.out)
            clear hmay HKP
            go_wp2
            go_roundw
            case rel => exact ⟨j + 1, by omega, by simp, S5, nb5, Lib.hid ⟨HK5.out.2.2.2.2.1, Nat.le_trans HJ.out.2.1 (by have := Nat.mul_le_mul_right (callsT (k - 1)) (cntU_mono (Nat.le_add_right j 1) used); omega), HJ.out.2.2.1, fun i hi => by
              rcases Nat.lt_or_ge i j with h9 | h9
              · exact HJ.out.2.2.2.1 i h9
              · obtain rfl : i = j := by omega
                exact HN.out, HK5.out.2.2.2.2.2⟩⟩
            case measure => simp [intOf]; omega
        · obtain rfl : j = n := by omega
          have hltI : ¬ (j : Int) < (j : Int) := by omega
          go_wp2
          go_ret
          refine ⟨.inr ⟨rfl, goM_none HC.out.ned HNZ.out (fun i hi => HJ.out.2.2.2.1 i (by rw [← HC.out.len]; exact hi)), S5, nb5, HJ.out.1, ?_, fun q h => ?_⟩, Fr.trans HFW.out HJ.out.2.2.2.2 (fun i h _ => h)⟩
          · have h1 := HJ.out.2.1
            rw [HK.out] at h1
            have := callsT_pred k
            omega
          · rcases HJ.out.2.2.1 q h with h1 | rfl | h1
            · exact .inl h1
            · exact .inr (goM_none HC.out.ned HNZ.out (fun i hi => HJ.out.2.2.2.1 i (by rw [← HC.out.len]; exact hi)))
            · exact .inr h1
    · have HSE3 : Hid (SeenR mb nb S w3) := Lib.hid (HSE.out.keep HF3.out (fun h => h))
      clear x0 x1 y0 y1 y2 c2''
      go_wp2
      go_ret
      exact ⟨.inr ⟨rfl, HSN.out.not (HR.out.1 (by first | rfl | trivial)), S, nb, HSE3.out, Nat.le_add_right _ _, fun q h => .inl h⟩, HF3.out.mono (fun _ _ h => h.elim)⟩

theorem hist_order {sb n need lc mb : Nat} {lp : Option Addr} {L : List Ev} (hC : OrdC sb n need lc mb lp L) (k : Nat) : OrdG sb n need lc mb lp L k := by
  induction k using Nat.strongRecOn with
  | _ k ih => exact order_step hC k ih
end Go.Proofs.Ytaijjmhannhkcaa
