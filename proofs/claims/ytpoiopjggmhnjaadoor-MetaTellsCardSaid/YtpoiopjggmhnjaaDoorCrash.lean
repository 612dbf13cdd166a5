/- dev: Crash, some sectors of what was not synced stay. -/
import Derived.Test.YtpoiopjggmhnjaaDoorTorn
import Derived.Test.YtpoiopjggmhnjaaDoorInts
import Derived.Test.YtpoiopjggmhnjaaDoorSink
import Derived.Deep.DrawnRows
namespace Go.Proofs.YtpoiopjggmhnjaaDoor
open Go.RowKit Go.Conc
attribute [local go_sem ↓] Go.wp_at_zero Go.wp_at_succ

theorem bkeep {w w' : World} {p : Addr} {v : Value} (hb : Below w.heap.size w w') (h : w.cell? p = some v) : w'.cell? p = some v := (hb.cell (cell_lt h)).trans h
theorem bkeepF {w w' : World} {p : Addr} {v : Value} (hb : Below w.heap.size w w') (h : w.cell? p = some v) : w'.frozen? p = w.frozen? p := hb.frozen (cell_lt h)

/-- What stays of the first n writes. -/
def crashL (sy : List ByteArray) (ws : List Wr) (ks : List Int) : Nat → List ByteArray
  | 0 => sy
  | n + 1 => if n < ks.length then (crashL sy ws ks n).set (ws.getD n default).1.toNat (tornS ((crashL sy ws ks n).getD (ws.getD n default).1.toNat default) (ws.getD n default).2 ((HL.el ks n) % 256).toNat) else crashL sy ws ks n

/-- All pages, and all that waits, are whole pages of places that are there. -/
structure DevOK (sy nw : List ByteArray) (ws : List Wr) : Prop where
  len : nw.length = sy.length
  few : sy.length ≤ 3000
  s : ∀ x ∈ sy, x.size = 256
  n : ∀ x ∈ nw, x.size = 256
  w : ∀ x ∈ ws, x.2.size = 256 ∧ ∃ p : Nat, x.1 = p ∧ p < sy.length
  wl : ws.length ≤ 1000

theorem crashL_succ (sy : List ByteArray) (ws : List Wr) (ks : List Int) (n : Nat) : crashL sy ws ks (n + 1) = if n < ks.length then (crashL sy ws ks n).set (ws.getD n default).1.toNat (tornS ((crashL sy ws ks n).getD (ws.getD n default).1.toNat default) (ws.getD n default).2 ((HL.el ks n) % 256).toNat) else crashL sy ws ks n := rfl

theorem crashL_length (sy : List ByteArray) (ws : List Wr) (ks : List Int) (n : Nat) : (crashL sy ws ks n).length = sy.length := by
  induction n with
  | zero => rfl
  | succ n ih =>
    unfold crashL
    split
    · rw [List.length_set, ih]
    · exact ih

theorem getD_mem {α : Type} [Inhabited α] {l : List α} {n : Nat} (h : n < l.length) : l.getD n default ∈ l := by
  rw [List.getD_eq_getElem?_getD, List.getElem?_eq_getElem h]
  exact List.getElem_mem h

theorem crashL_size {sy nw : List ByteArray} {ws : List Wr} (ks : List Int) (h : DevOK sy nw ws) (n : Nat) (hn : n ≤ ws.length) : ∀ x ∈ crashL sy ws ks n, x.size = 256 := by
  induction n with
  | zero => exact h.s
  | succ n ih =>
    unfold crashL
    split
    · intro x hx
      obtain ⟨h2, p, h1, hp⟩ := h.w _ (getD_mem (l := ws) (n := n) (by omega))
      rcases List.mem_or_eq_of_mem_set hx with hx | rfl
      · exact ih (by omega) x hx
      · refine tornS_size _ _ _ (ih (by omega) _ (getD_mem ?_)) h2
        rw [crashL_length, h1]
        simpa using hp
    · exact ih (by omega)

section
variable {db base : Nat} {m lf : Int} {on fu : Bool} {sy nw ss : List ByteArray} {ws : List Wr} {v4 v5 cv u : Value} {w : World}

/-- A synced page is stored. -/
theorem DevI.set4 {g n cap : Nat} (h : DevI db base m on fu lf sy nw ws (.slice (some ⟨g, 0, none⟩) n cap) v5 cv w) (k : Nat) (hk : k < sy.length) (x : ByteArray) :
    DevI db base m on fu lf (sy.set k x) nw ws (.slice (some ⟨g, 0, none⟩) n cap) v5 cv (w.setCell ⟨g, k, none⟩ (.string x)) ∧ Fr (fun i => i = g) w (w.setCell ⟨g, k, none⟩ (.string x)) := by
  have hn : n = sy.length := by
    obtain ⟨p, cp, hv⟩ := owns_slice h.o4
    injection hv
  subst hn
  have s1 := h.o4.stored k (.string x)
  have hF : Fr (fun i => i = g) w (w.setCell ⟨g, k, none⟩ (.string x)) := (Fr.refl (fun i => i = g) w).setCell (p := ⟨g, k, none⟩) (fun _ => rfl) _
  have hdl : db < w.heap.size := cell_lt h.c0
  have hne : db ≠ g := fun e => h.n4 (by rw [e]; rfl)
  have cc : ∀ o, (w.setCell ⟨g, k, none⟩ (.string x)).cell? ⟨db, o, none⟩ = w.cell? ⟨db, o, none⟩ := fun o => hF.cell (p := ⟨db, o, none⟩) hdl hne
  refine ⟨⟨(cc 0).trans h.c0, (cc 1).trans h.c1, (cc 2).trans h.c2, (cc 3).trans h.c3, (cc 4).trans h.c4, (cc 5).trans h.c5, (cc 6).trans h.c6, fun o ho => (frozen_set _ _ _ _).trans (h.fz o ho), ?_, hF.owns h.o5 (fun x9 hx e9 => h.n45 g rfl (by rw [← e9]; exact hx)), h.n4, h.n5, h.n45, h.ch.keep hF (fun c e9 => ?_), h.bs, h.bc⟩, hF⟩
  · rw [List.length_set, ← rowOf_set1 scells scells_length sy k x _ rfl hk]
    exact s1.1
  · rcases h.ch with ⟨e8, _⟩ | ⟨c8, cap8, s8, r8, e8, hc8, _⟩
    · rw [e8] at e9; cases e9
    · rw [e8] at e9; injection e9 with e9; injection e9 with e9; subst e9; intro h9; exact owns_not_chan h.o4 (g := g) rfl hc8 h9.symm

/-- Another row of pages, a new one, is what is there now. -/
theorem DevI.renew (h : DevI db base m on fu lf sy nw ws v4 v5 cv w) {B : Nat} (hB : base ≤ B) (hu : w.ownsRow B 9 1 u ss.length (rowOf scells ss)) (hdb : db < B) (h4 : ∀ g, v4.ownBlock = some g → g < B) :
    DevI db base m on fu lf sy ss ws v4 u cv (w.setCell ⟨db, 5, none⟩ u) ∧ Fr (fun k => k = db) w (w.setCell ⟨db, 5, none⟩ u) := by
  have hF : Fr (fun k => k = db) w (w.setCell ⟨db, 5, none⟩ u) := (Fr.refl (fun i => i = db) w).setCell (fun _ => rfl) _
  have co : ∀ o, o ≠ 5 → (w.setCell ⟨db, 5, none⟩ u).cell? ⟨db, o, none⟩ = w.cell? ⟨db, o, none⟩ := fun o ho => World.cell?_setCell_other _ _ _ _ (by intro e9; injection e9 with _ e9 _; omega)
  have hun : u.ownBlock ≠ some db := fun e => by have := (hu.lt db e).1; omega
  refine ⟨⟨(co 0 (by omega)).trans h.c0, (co 1 (by omega)).trans h.c1, (co 2 (by omega)).trans h.c2, (co 3 (by omega)).trans h.c3, (co 4 (by omega)).trans h.c4, cell_set_same w ⟨db, 5, none⟩ u v5 h.c5, (co 6 (by omega)).trans h.c6, fun o ho => (frozen_set _ _ _ _).trans ((h.fz o ho)), hF.owns h.o4 (fun g hg e => h.n4 (by rw [hg, e])), ?_, h.n4, hun, fun g hg e => ?_, h.ch.keep hF (fun c e9 h9 => ?_), h.bs, h.bc⟩, hF⟩
  · have e := hF.owns hu (fun g hg e => hun (by rw [hg, e]))
    refine ⟨e.1, ?_⟩
    rcases e.2 with e | ⟨g, c, cur, e, hb, rest⟩
    · exact .inl e
    · exact .inr ⟨g, c, cur, e, by omega, rest⟩
  · have h1 := (hu.lt g e).1
    have h2 := h4 g hg
    omega
  · rcases h.ch with ⟨e8, _⟩ | ⟨c8, cap8, s8, r8, e8, hc8, _⟩
    · rw [e8] at e9; cases e9
    · rw [e8] at e9; injection e9 with e9; injection e9 with e9; subst e9; exact not_chan h.c0 hc8 h9.symm

/-- The power goes. -/
theorem DevI.dark (h : DevI db base m on fu lf sy nw ws v4 v5 cv w) : DevI db base m false false lf sy nw ws v4 v5 cv ((w.setCell ⟨db, 1, none⟩ (.bool false)).setCell ⟨db, 2, none⟩ (.bool false)) ∧ Fr (fun k => k = db) w ((w.setCell ⟨db, 1, none⟩ (.bool false)).setCell ⟨db, 2, none⟩ (.bool false)) := by
  have hF : Fr (fun k => k = db) w ((w.setCell ⟨db, 1, none⟩ (.bool false)).setCell ⟨db, 2, none⟩ (.bool false)) := ((Fr.refl (fun i => i = db) w).setCell (p := ⟨db, 1, none⟩) (fun _ => rfl) _).setCell (p := ⟨db, 2, none⟩) (fun _ => rfl) _
  have co : ∀ o, o ≠ 1 → o ≠ 2 → ((w.setCell ⟨db, 1, none⟩ (.bool false)).setCell ⟨db, 2, none⟩ (.bool false)).cell? ⟨db, o, none⟩ = w.cell? ⟨db, o, none⟩ := fun o h1 h2 => (World.cell?_setCell_other _ _ _ _ (by intro e9; injection e9 with _ e9 _; omega)).trans (World.cell?_setCell_other _ _ _ _ (by intro e9; injection e9 with _ e9 _; omega))
  have c1 : (w.setCell ⟨db, 1, none⟩ (.bool false)).cell? ⟨db, 1, none⟩ = some (.bool false) := cell_set_same w _ _ _ h.c1
  have c2 : (w.setCell ⟨db, 1, none⟩ (.bool false)).cell? ⟨db, 2, none⟩ = some (.bool fu) := (World.cell?_setCell_other _ _ _ _ (by intro e9; injection e9 with _ e9 _; omega)).trans h.c2
  refine ⟨⟨(co 0 (by omega) (by omega)).trans h.c0, (World.cell?_setCell_other _ _ _ _ (by intro e9; injection e9 with _ e9 _; omega)).trans c1, cell_set_same _ _ _ _ c2, (co 3 (by omega) (by omega)).trans h.c3, (co 4 (by omega) (by omega)).trans h.c4, (co 5 (by omega) (by omega)).trans h.c5, (co 6 (by omega) (by omega)).trans h.c6, fun o ho => (frozen_set _ _ _ _).trans ((frozen_set _ _ _ _).trans (h.fz o ho)), hF.owns h.o4 (fun g hg e => h.n4 (by rw [hg, e])), hF.owns h.o5 (fun g hg e => h.n5 (by rw [hg, e])), h.n4, h.n5, h.n45, h.ch.keep hF (fun c e9 h9 => ?_), h.bs, h.bc⟩, hF⟩
  rcases h.ch with ⟨e8, _⟩ | ⟨c8, cap8, s8, r8, e8, hc8, _⟩
  · rw [e8] at e9; cases e9
  · rw [e8] at e9; injection e9 with e9; injection e9 with e9; subst e9; exact not_chan h.c0 hc8 h9.symm
end

set_option maxHeartbeats 2000000 in
set_option maxRecDepth 100000 in
theorem dev_crash (db base : Nat) (m lf : Int) (on fu : Bool) (sy nw : List ByteArray) (ws : List Wr) (v4 v5 cv : Value) (kp : Option Addr) (kn kc : Nat) (ks : List Int) (w : World) (h : DevI db base m on fu lf sy nw ws v4 v5 cv w) (hok : DevOK sy nw ws) (hb : base ≤ w.heap.size)
    (hk : RdI w w.heap.size kp kn ks) (hkd : 0 < kn → ∀ a, kp = some a → ¬ devF db v4 v5 cv a.block) (hkn : kn ≤ 100000) :
    Calls Tryd.prog 23 #[.pointer (some ⟨db, 0, none⟩), .slice kp kn kc] w fun e w' => e = .returned (.tuple #[]) ∧ ∃ u, DevI db base m false false lf (crashL sy ws ks ws.length) (crashL sy ws ks ws.length) [] v4 u cv w' ∧ Fr (devF db v4 v5 cv) w w' ∧ (∀ g, u.ownBlock = some g → w.heap.size ≤ g) := by
  have hd := h.dark
  have hc1 := h.c1
  have hc2 := h.c2
  have hf1 := h.fz 1 (by omega)
  have hf2 := h.fz 2 (by omega)
  have hwl := hok.wl
  have HD := Lib.hid hd
  have HOK := Lib.hid hok
  have HK := Lib.hid hk
  have HKD := Lib.hid hkd
  have HDR := Lib.hid (drain_any db cv ws _ hd.1.c6 hd.1.ch (by omega))
  have hdl : db < w.heap.size := cell_lt h.c0
  have HH := Lib.hid h
  clear hd hk hkd h hok
  go_enter Tryd.func23, Tryd.ntmps23
  go_wp2_with fail
  refine HDR.out.mono ?_
  rintro e w2 ⟨v2, rfl, ho2, hF2, hch2⟩
  obtain ⟨p2, cap2, rfl⟩ := owns_slice ho2
  have hI2 := HD.out.1.drained hF2 hch2
  have HI2 := Lib.hid hI2
  have HO2 := Lib.hid ho2
  have HF2 : Hid (Fr (devF db v4 v5 cv) w w2) := Lib.hid (Fr.trans (HD.out.2.mono (fun i _ hi => (.inl hi : devF db v4 v5 cv i))) hF2 (fun i hi _ => .inr (.inr (.inr hi))))
  have hsz2 := HF2.out.size
  rw [show ((w.setCell ⟨db, 1, none⟩ (.bool false)).setCell ⟨db, 2, none⟩ (.bool false)).heap.size = w.heap.size by simp [World.setCell]] at HO2
  clear hI2 ho2 hF2 hch2 HDR HD hc1 hc2 hf1 hf2
  go_wp2
  go_loopw [17] (fun iv wr => ∃ i : Nat, i ≤ ws.length ∧ iv = .int .i64 i ∧ DevI db base m false false lf (crashL sy ws ks i) nw [] v4 v5 cv wr ∧ Fr (devF db v4 v5 cv) w wr ∧ wr.ownsRow w.heap.size 74 2 (.slice p2 ws.length cap2) ws.length (rowOf wcells ws)) (fun iv _ => ws.length - (intOf iv).toNat)
  case atStart => exact ⟨0, by omega, rfl, HI2.out, HF2.out, HO2.out⟩
  case round =>
    obtain ⟨i, hi, rfl, hI, hF, ho⟩ := hrel
    clear HI2 HO2 HF2 hsz2
    have hszr := hF.size
    by_cases hlt : i < ws.length
    · obtain ⟨g2, cp2, hv2, hb2, hl2, _⟩ := owns_len ho (by omega)
      injection hv2 with e1 _ e2
      subst e1 e2
      have hx0 := ho.cells (g := g2) rfl _ _ (rowOf_at wcells wcells_length ws i 0 hlt (by omega))
      have hx1 := ho.cells (g := g2) rfl _ _ (rowOf_at wcells wcells_length ws i 1 hlt (by omega))
      rw [add_at0] at hx0 hx1
      have hxm := HOK.out.w _ (getD_mem (l := ws) (n := i) hlt)
      generalize hxx : ws.getD i default = xi at hx0 hx1 hxm
      obtain ⟨x1, x2⟩ := xi
      obtain ⟨hx2, pg, hpe, hpg⟩ := hxm
      obtain rfl : x1 = (pg : Int) := hpe
      rw [Nat.add_zero] at hx0
      have HXX := Lib.hid hxx
      have HO := Lib.hid ho
      have HI := Lib.hid hI
      have HF := Lib.hid hF
      have HX2 : Hid (x2.size = 256) := Lib.hid hx2
      have HPE : Hid (((pg : Int)).toNat = pg) := Lib.hid (by simp)
      clear hxx ho hI hF hx2
      by_cases hik : i < kn
      · have hll := crashL_length sy ws ks i
        obtain ⟨g4, cap4, hv4, hb4, hl4, _⟩ := owns_len HI.out.o4 (by omega)
        subst hv4
        have hm4 := crashL_size ks HOK.out i hi ((crashL sy ws ks i).getD pg default) (getD_mem (by omega))
        have hr4 := HI.out.o4.cells (g := g4) rfl pg (.string ((crashL sy ws ks i).getD pg default)) (by
          have r0 := rowOf_at scells scells_length (crashL sy ws ks i) pg 0 (by omega) (by omega)
          rw [Nat.mul_one, Nat.add_zero] at r0
          exact r0)
        rw [add_at0] at hr4
        have hf4 := HI.out.o4.frozenAt pg
        obtain ⟨kb, ko, hkp, hkb, hkc⟩ := HK.out.2 (by omega)
        subst hkp
        have hkw := (HF.out.cell (p := ⟨kb, ko + i, none⟩) hkb (HKD.out (by omega) ⟨kb, ko, none⟩ rfl)).trans (hkc i hik)
        have hkl : i < ks.length := by rw [HK.out.1]; exact hik
        have hc4 := HI.out.c4
        have HNX : Hid ((crashL sy ws ks i).set pg (tornS ((crashL sy ws ks i).getD pg default) x2 ((HL.el ks i) % 256).toNat) = crashL sy ws ks (i + 1)) := Lib.hid (by
          rw [crashL_succ, if_pos hkl, HXX.out, HPE.out])
        generalize hol : (crashL sy ws ks i).getD pg default = old at *
        have HTO := Lib.hid (fun k w => torn_str old x2 k hm4 HX2.out w)
        have hbits : bits BinOp.and IntKind.i64 (HL.el ks i) 255 = (((HL.el ks i % 256).toNat : Nat) : Int) := by rw [i64_and255]; omega
        generalize hkk : (HL.el ks i % 256).toNat = kk at *
        generalize hke : HL.el ks i = ke at *
        generalize hnl : crashL sy ws ks i = cl at *
        obtain ⟨W, hW⟩ : ∃ W, wr.alloc (.cells #[.int .i64 pg, .string x2] 74) = W := ⟨_, rfl⟩
        have hFW : Fr (fun _ => False) wr W := by rw [← hW]; exact (Fr.refl _ wr).alloc _
        have hbx0 : W.cell? ⟨wr.heap.size, 0, none⟩ = some (.int .i64 pg) := by rw [← hW]; have e := new_cells wr [.int .i64 pg, .string x2] 74 0 _ rfl; rw [add_at0] at e; exact e
        have hbx1 : W.cell? ⟨wr.heap.size, 1, none⟩ = some (.string x2) := by rw [← hW]; have e := new_cells wr [.int .i64 pg, .string x2] 74 1 _ rfl; rw [add_at0] at e; exact e
        have hc4W := (hFW.cell (p := ⟨db, 4, none⟩) (cell_lt hc4) (fun h => h)).trans hc4
        have hr4W := (hFW.cell (p := ⟨g4, pg, none⟩) (cell_lt hr4) (fun h => h)).trans hr4
        have hf4W := (hFW.frozen (p := ⟨g4, pg, none⟩) (cell_lt hr4) (fun h => h)).trans hf4
        have hkwW := (hFW.cell (p := ⟨kb, ko + i, none⟩) (cell_lt hkw) (fun h => h)).trans hkw
        have HFW := Lib.hid hFW
        have HCL : Hid (cl.length = sy.length) := Lib.hid hll
        have HG24 : Hid (g2 ≠ g4) := Lib.hid (fun e => by have := HH.out.lt g4 (.inr (.inl rfl)); omega)
        have hp1 : (0 : Int) ≤ (pg : Int) := by omega
        have hp2 : (pg : Int) < (cl.length : Int) := by omega
        have hi1 : (0 : Int) ≤ (i : Int) := by omega
        have hi2 : (i : Int) < (kn : Int) := by omega
        clear hFW hm4 hol hkk hke hnl hll
        have HW := Lib.hid hW
        clear hW
        go_wp2_with fail
        rw [HW.out]
        clear hc4 hr4 hf4 hkw hx0 hx1
        have hSW : W.drew.cell? ⟨db, 4, none⟩ = some (.slice (some ⟨g4, 0, none⟩) cl.length cap4) ∧ W.drew.cell? ⟨wr.heap.size, 0, none⟩ = some (.int .i64 pg) ∧ W.drew.cell? ⟨wr.heap.size, 1, none⟩ = some (.string x2) ∧ W.drew.cell? ⟨g4, pg, none⟩ = some (.string old) ∧ W.drew.frozen? ⟨g4, pg, none⟩ = false ∧ W.drew.cell? ⟨kb, ko + i, none⟩ = some (.int .i64 ke) := ⟨hc4W, hbx0, hbx1, hr4W, hf4W, hkwW⟩
        clear hc4W hbx0 hbx1 hr4W hf4W hkwW
        refine region_sink (n := 23) (fun w' => w'.cell? ⟨db, 4, none⟩ = some (.slice (some ⟨g4, 0, none⟩) cl.length cap4) ∧ w'.cell? ⟨wr.heap.size, 0, none⟩ = some (.int .i64 pg) ∧ w'.cell? ⟨wr.heap.size, 1, none⟩ = some (.string x2) ∧ w'.cell? ⟨g4, pg, none⟩ = some (.string old) ∧ w'.frozen? ⟨g4, pg, none⟩ = false ∧ w'.cell? ⟨kb, ko + i, none⟩ = some (.int .i64 ke)) (by kernel_rfl) rfl hSW (fun inv hS => ?_)
        clear hSW
        (refine sink_take (i := 0) (v := ?_) (by kernel_rfl) inv rfl (by kernel_rfl) (fun _ _ _ h => h) (Or.inl ⟨by rfl, ?_⟩) hS ?_; rotate_left 1; (focus (intro w hSw; (try dsimp only at hSw); go_simp; try with_reducible rfl)); clear inv; intro inv; (try simp only [Act.put]); (try simp only [List.setIfInBounds_toArray]))
        (refine sink_take (i := 1) (v := ?_) (by kernel_rfl) inv rfl (by kernel_rfl) (fun _ _ _ h => h) (Or.inl ⟨by rfl, ?_⟩) hS ?_; rotate_left 1; (focus (intro w hSw; (try dsimp only at hSw); go_simp; try with_reducible rfl)); clear inv; intro inv; (try simp only [Act.put]); (try simp only [List.setIfInBounds_toArray]))
        (refine sink_take (i := 2) (v := ?_) (by kernel_rfl) inv rfl (by kernel_rfl) (fun _ _ _ h => h) (Or.inl ⟨by rfl, ?_⟩) hS ?_; rotate_left 1; (focus (intro w hSw; (try dsimp only at hSw); go_simp; try with_reducible rfl)); clear inv; intro inv; (try simp only [Act.put]); (try simp only [List.setIfInBounds_toArray]))
        (refine sink_take (i := 3) (v := ?_) (by kernel_rfl) inv rfl (by kernel_rfl) (fun _ _ _ h => h) (Or.inl ⟨by rfl, ?_⟩) hS ?_; rotate_left 1; (focus (intro w hSw; (try dsimp only at hSw); go_simp; try with_reducible rfl)); clear inv; intro inv; (try simp only [Act.put]); (try simp only [List.setIfInBounds_toArray]))
        (refine sink_take (i := 4) (v := ?_) (by kernel_rfl) inv rfl (by kernel_rfl) (fun _ _ _ h => h) (Or.inl ⟨by rfl, ?_⟩) hS ?_; rotate_left 1; (focus (intro w hSw; (try dsimp only at hSw); go_simp; try with_reducible rfl)); clear inv; intro inv; (try simp only [Act.put]); (try simp only [List.setIfInBounds_toArray]))
        (refine sink_take (i := 5) (v := ?_) (by kernel_rfl) inv rfl (by kernel_rfl) (fun _ _ _ h => h) (Or.inl ⟨by rfl, ?_⟩) hS ?_; rotate_left 1; (focus (intro w hSw; (try dsimp only at hSw); go_simp; try with_reducible rfl)); clear inv; intro inv; (try simp only [Act.put]); (try simp only [List.setIfInBounds_toArray]))
        (refine sink_take (i := 6) (v := ?_) (by kernel_rfl) inv rfl (by kernel_rfl) (fun _ _ _ h => h) (Or.inl ⟨by rfl, ?_⟩) hS ?_; rotate_left 1; (focus (intro w hSw; (try dsimp only at hSw); go_simp; try with_reducible rfl)); clear inv; intro inv; (try simp only [Act.put]); (try simp only [List.setIfInBounds_toArray]))
        (refine sink_take (i := 7) (v := ?_) (by kernel_rfl) inv rfl (by kernel_rfl) (fun _ _ _ h => h) (Or.inl ⟨by rfl, ?_⟩) hS ?_; rotate_left 1; (focus (intro w hSw; (try dsimp only at hSw); go_simp; try with_reducible rfl)); clear inv; intro inv; (try simp only [Act.put]); (try simp only [List.setIfInBounds_toArray]))
        (refine sink_take (i := 8) (v := ?_) (by kernel_rfl) inv rfl (by kernel_rfl) (fun _ _ _ h => h) (Or.inl ⟨by rfl, ?_⟩) hS ?_; rotate_left 1; (focus (intro w hSw; (try dsimp only at hSw); go_simp; try with_reducible rfl)); clear inv; intro inv; (try simp only [Act.put]); (try simp only [List.setIfInBounds_toArray]))
        (refine sink_take (i := 9) (v := ?_) (by kernel_rfl) inv rfl (by kernel_rfl) (fun _ _ _ h => h) (Or.inl ⟨by rfl, ?_⟩) hS ?_; rotate_left 1; (focus (intro w hSw; (try dsimp only at hSw); go_simp; try with_reducible rfl)); clear inv; intro inv; (try simp only [Act.put]); (try simp only [List.setIfInBounds_toArray]))
        (refine sink_take (i := 10) (v := ?_) (by kernel_rfl) inv rfl (by kernel_rfl) (fun _ _ _ h => h) (Or.inl ⟨by rfl, ?_⟩) hS ?_; rotate_left 1; (focus (intro w hSw; (try dsimp only at hSw); go_simp; try with_reducible rfl)); clear inv; intro inv; (try simp only [Act.put]); (try simp only [List.setIfInBounds_toArray]))
        (refine sink_take (i := 11) (v := ?_) (by kernel_rfl) inv rfl (by kernel_rfl) (fun _ _ _ h => h) (Or.inl ⟨by rfl, ?_⟩) hS ?_; rotate_left 1; (focus (intro w hSw; (try dsimp only at hSw); go_simp; try with_reducible rfl)); clear inv; intro inv; (try simp only [Act.put]); (try simp only [List.setIfInBounds_toArray]))
        (refine sink_take (i := 12) (v := ?_) (by kernel_rfl) inv rfl (by kernel_rfl) (fun _ _ _ h => h) (Or.inl ⟨by rfl, ?_⟩) hS ?_; rotate_left 1; (focus (intro w hSw; (try dsimp only at hSw); go_simp; try with_reducible rfl)); clear inv; intro inv; (try simp only [Act.put]); (try simp only [List.setIfInBounds_toArray]))
        (refine sink_take (i := 13) (v := ?_) (by kernel_rfl) inv rfl (by kernel_rfl) (fun _ _ _ h => h) (Or.inl ⟨by rfl, ?_⟩) hS ?_; rotate_left 1; (focus (intro w hSw; (try dsimp only at hSw); go_simp; try with_reducible rfl)); clear inv; intro inv; (try simp only [Act.put]); (try simp only [List.setIfInBounds_toArray]))
        (refine sink_take (i := 14) (v := ?_) (by kernel_rfl) inv rfl (by kernel_rfl) (fun _ _ _ h => h) (Or.inl ⟨by rfl, ?_⟩) hS ?_; rotate_left 1; (focus (intro w hSw; (try dsimp only at hSw); go_simp; try with_reducible rfl)); clear inv; intro inv; (try simp only [Act.put]); (try simp only [List.setIfInBounds_toArray]))
        (refine sink_take (i := 15) (v := ?_) (by kernel_rfl) inv rfl (by kernel_rfl) (fun _ _ _ h => h) (Or.inl ⟨by rfl, ?_⟩) hS ?_; rotate_left 1; (focus (intro w hSw; (try dsimp only at hSw); go_simp; try with_reducible rfl)); clear inv; intro inv; (try simp only [Act.put]); (try simp only [List.setIfInBounds_toArray]))
        (refine sink_take (i := 16) (v := ?_) (by kernel_rfl) inv rfl (by kernel_rfl) (fun _ _ _ h => h) (Or.inl ⟨by rfl, ?_⟩) hS ?_; rotate_left 1; (focus (intro w hSw; (try dsimp only at hSw); go_simp; try with_reducible rfl)); clear inv; intro inv; (try simp only [Act.put]); (try simp only [List.setIfInBounds_toArray]))
        (refine sink_take (i := 17) (v := ?_) (by kernel_rfl) inv rfl (by kernel_rfl) (fun _ _ _ h => h) (Or.inl ⟨by rfl, ?_⟩) hS ?_; rotate_left 1; (focus (intro w hSw; (try dsimp only at hSw); go_simp; try with_reducible rfl)); clear inv; intro inv; (try simp only [Act.put]); (try simp only [List.setIfInBounds_toArray]))
        (refine sink_take (i := 18) (v := ?_) (by kernel_rfl) inv rfl (by kernel_rfl) (fun _ _ _ h => h) (Or.inl ⟨by rfl, ?_⟩) hS ?_; rotate_left 1; (focus (intro w hSw; (try dsimp only at hSw); go_simp; try with_reducible rfl)); clear inv; intro inv; (try simp only [Act.put]); (try simp only [List.setIfInBounds_toArray]))
        (refine sink_take (i := 19) (v := ?_) (by kernel_rfl) inv rfl (by kernel_rfl) (fun _ _ _ h => h) (Or.inl ⟨by rfl, ?_⟩) hS ?_; rotate_left 1; (focus (intro w hSw; (try dsimp only at hSw); go_simp; try with_reducible rfl)); clear inv; intro inv; (try simp only [Act.put]); (try simp only [List.setIfInBounds_toArray]))
        (refine sink_take (i := 20) (v := ?_) (by kernel_rfl) inv rfl (by kernel_rfl) (fun _ _ _ h => h) (Or.inl ⟨by rfl, ?_⟩) hS ?_; rotate_left 1; (focus (intro w hSw; (try dsimp only at hSw); go_simp; try with_reducible rfl)); clear inv; intro inv; (try simp only [Act.put]); (try simp only [List.setIfInBounds_toArray]))
        refine sink_one (i := 21) (by kernel_rfl) rfl (by omega) inv (fun K hK => ?_)
        have HKK := Lib.hid hK
        clear hK
        go_simp
        refine (HTO.out _ _).mono ?_
        rintro e w5 ⟨rfl, hbt⟩
        obtain ⟨s1, s2, s3, s4, s5, s6⟩ := hS
        refine HKK.out _ _ ⟨bkeep hbt s1, bkeep hbt s2, bkeep hbt s3, bkeep hbt s4, (bkeepF hbt s4).trans s5, bkeep hbt s6⟩ ?_
        clear s1 s2 s3 s4 s5 s6 HKK inv
        intro hS inv
        (try simp only [Act.put]); (try simp only [List.setIfInBounds_toArray])
        (refine sink_take (i := 22) (v := ?_) (by kernel_rfl) inv rfl (by kernel_rfl) (fun _ _ _ h => h) (Or.inl ⟨by rfl, ?_⟩) hS ?_; rotate_left 1; (focus (intro w hSw; (try dsimp only at hSw); go_simp; try with_reducible rfl)); clear inv; intro inv; (try simp only [Act.put]); (try simp only [List.setIfInBounds_toArray]))
        refine sink_last (by kernel_rfl) rfl (by kernel_rfl) (fun K hK => ?_)
        have HKK := Lib.hid hK
        clear hK
        obtain ⟨s1, s2, s3, s4, s5, s6⟩ := hS
        go_simp
        refine HKK.out _ _ ?_
        have hF5 : Fr (fun _ => False) wr w5 := Fr.trans (HFW.out.drew) (Fr.of_all (S := fun _ => False) hbt) (fun _ h _ => h)
        have hI5 := (HI.out.keep hF5 (fun _ _ h => h)).set4 pg (by have := HCL.out; omega) (tornS old x2 kk)
        rw [HNX.out] at hI5
        have hF6 : Fr (devF db (.slice (some ⟨g4, 0, none⟩) cl.length cap4) v5 cv) w (w5.setCell ⟨g4, pg, none⟩ (.string (tornS old x2 kk))) := Fr.trans (Fr.trans HF.out hF5 (fun _ h _ => h.elim)) hI5.2 (fun k hk _ => .inr (.inl (by rw [hk]; rfl)))
        have hO6 := hI5.2.owns (hF5.owns HO.out (fun _ _ h => h)) (fun g hg e => by
          have h9 : g2 = g := by simpa [Value.ownBlock] using hg
          have e9 : g = g4 := e
          exact HG24.out (by omega))
        have HI6 := Lib.hid hI5.1
        have HF6 := Lib.hid hF6
        have HO6 := Lib.hid hO6
        clear hI5 hF6 hF5 hO6 HKK s1 s2 s3 s4 s5 s6 hbt
        go_wp2
        go_roundw
        case rel => exact ⟨i + 1, by omega, by go_num, HI6.out, HF6.out, HO6.out⟩
        case measure => simp [intOf]; omega
      · have hkl : ¬ i < ks.length := by rw [HK.out.1]; exact hik
        have HNX : Hid (crashL sy ws ks i = crashL sy ws ks (i + 1)) := Lib.hid (by rw [crashL_succ, if_neg hkl])
        have hF5 : Fr (fun _ => False) wr (wr.alloc (.cells #[.int .i64 pg, .string x2] 74)) := (Fr.refl _ wr).alloc _
        have hI5 := HI.out.keep hF5 (fun _ _ h => h)
        rw [HNX.out] at hI5
        have HI6 := Lib.hid hI5
        have HF6 := Lib.hid (Fr.trans HF.out hF5 (fun _ h _ => h.elim))
        have HO6 := Lib.hid (hF5.owns HO.out (fun _ _ h => h))
        clear hI5 hF5 hkl
        go_wp2
        go_roundw
        case rel => exact ⟨i + 1, by omega, by go_num, HI6.out, HF6.out, HO6.out⟩
        case measure => simp [intOf]; omega
    · obtain rfl : i = ws.length := by omega
      have hc4 := hI.c4
      have hll := crashL_length sy ws ks ws.length
      have HCS := Lib.hid (clone_strs base v4 _ wr hI.o4 (by have := HOK.out.few; omega))
      have HI := Lib.hid hI
      have HF := Lib.hid hF
      clear hI hF ho hll
      go_wp2_with fail
      refine HCS.out.mono ?_
      rintro e w3 ⟨u, rfl, hou, hb3⟩
      have hI3 := HI.out.keep (Fr.of_all (S := fun _ => False) hb3) (fun _ _ h => h)
      have hsy := hI3.renew (Nat.le_trans hb hszr) hou (Nat.lt_of_lt_of_le hdl hszr) (fun g hg => HI.out.lt g (.inr (.inl hg)))
      have hc5 := hI3.c5
      have hf5 := hI3.fz 5 (by omega)
      obtain ⟨pu, cu, rfl⟩ := owns_slice hou
      have HOU := Lib.hid hou
      have HB3 := Lib.hid hb3
      have HSY := Lib.hid hsy
      clear hou hb3 hsy hI3 HCS
      go_wp2
      go_end0
      refine ⟨rfl, _, HSY.out.1, ?_, fun g hg => Nat.le_trans hszr (HOU.out.lt g hg).1⟩
      exact Fr.trans (Fr.trans HF.out (Fr.of_all (S := fun _ => False) HB3.out) (fun i hi _ => hi.elim)) HSY.out.2 (fun i hi _ => .inl hi)
end Go.Proofs.YtpoiopjggmhnjaaDoor
