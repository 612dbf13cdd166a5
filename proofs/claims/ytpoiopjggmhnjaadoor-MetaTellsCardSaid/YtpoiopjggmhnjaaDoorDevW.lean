/- dev: strings.Clone; the contract of Write, of a device that has power and no fuse. -/
import Derived.Test.YtpoiopjggmhnjaaDoorDevG
namespace Go.Proofs.YtpoiopjggmhnjaaDoor
open Go.RowKit Go.Conc

set_option maxRecDepth 100000 in
theorem clone_str (s : ByteArray) (w : World) (hs : s.size ≤ 1000000) :
    Calls Tryd.prog 38 #[.string s] w fun e w' => e = .returned (.string s) ∧ Below w.heap.size w w' := by
  have HC := Lib.hid (Tryd.stringslite_Clone s w (by omega))
  go_enter Tryd.func38, Tryd.ntmps38
  go_wp2_with fail
  refine HC.out.mono ?_
  rintro e w' ⟨rfl, hb⟩
  go_wp2
  go_ret
  exact ⟨rfl, hb⟩

section
variable {db base : Nat} {m lf : Int} {on fu : Bool} {sy nw : List ByteArray} {ws : List Wr} {v4 cv : Value} {w : World}

/-- A page is stored. -/
theorem DevI.set5 {g n cap : Nat} (h : DevI db base m on fu lf sy nw ws v4 (.slice (some ⟨g, 0, none⟩) n cap) cv w) (k : Nat) (hk : k < nw.length) (x : ByteArray) :
    DevI db base m on fu lf sy (nw.set k x) ws v4 (.slice (some ⟨g, 0, none⟩) n cap) cv (w.setCell ⟨g, k, none⟩ (.string x)) ∧ Fr (fun i => i = g) w (w.setCell ⟨g, k, none⟩ (.string x)) := by
  have hn : n = nw.length := by
    obtain ⟨p, cp, hv⟩ := owns_slice h.o5
    injection hv
  subst hn
  have s1 := h.o5.stored k (.string x)
  have hF : Fr (fun i => i = g) w (w.setCell ⟨g, k, none⟩ (.string x)) := (Fr.refl (fun i => i = g) w).setCell (p := ⟨g, k, none⟩) (fun _ => rfl) _
  have hdl : db < w.heap.size := cell_lt h.c0
  have hne : db ≠ g := fun e => h.n5 (by rw [e]; rfl)
  have cc : ∀ o, (w.setCell ⟨g, k, none⟩ (.string x)).cell? ⟨db, o, none⟩ = w.cell? ⟨db, o, none⟩ := fun o => hF.cell (p := ⟨db, o, none⟩) hdl hne
  refine ⟨⟨(cc 0).trans h.c0, (cc 1).trans h.c1, (cc 2).trans h.c2, (cc 3).trans h.c3, (cc 4).trans h.c4, (cc 5).trans h.c5, (cc 6).trans h.c6, fun o ho => (frozen_set _ _ _ _).trans (h.fz o ho), hF.owns h.o4 (fun x9 hx e9 => h.n45 x9 hx (by rw [e9]; rfl)), ?_, h.n4, h.n5, h.n45, h.ch.keep hF (fun c e9 => ?_), h.bs, h.bc⟩, hF⟩
  · rw [List.length_set, ← rowOf_set1 scells scells_length nw k x _ rfl hk]
    exact s1.1
  · rcases h.ch with ⟨e8, _⟩ | ⟨c8, cap8, s8, r8, e8, hc8, _⟩
    · rw [e8] at e9; cases e9
    · rw [e8] at e9; injection e9 with e9; injection e9 with e9; subst e9; intro h9; exact owns_not_chan h.o5 (g := g) rfl hc8 h9.symm

/-- A write waits. -/
theorem DevI.waits {v5 : Value} {x : Wr} {e : Ending} {w' : World} (h : DevI db base m on fu lf sy nw ws v4 v5 cv w) (hb : base ≤ w.heap.size) (hp : PutPost db cv x ws w e w') :
    ∃ c, DevI db base m on fu lf sy nw (ws ++ [x]) v4 v5 (.chan (some c)) w' ∧ (cv = .chan (some c) ∨ w.heap.size ≤ c) ∧ Fr (fun k => k = db ∨ cv = .chan (some k)) w w' := by
  obtain ⟨_, c, cap, s, r, hc6, hf6, hch, hl, hl2, hfrom, hF, ho⟩ := hp
  have hcn : ∀ k, cv = .chan (some k) → ∃ cap s r, w.heap[k]? = some (chanOf cap s r ws) := by
    intro k hk
    rcases h.ch with ⟨e8, _⟩ | ⟨c8, cap8, s8, r8, e8, hc8, _⟩
    · rw [e8] at hk; cases hk
    · rw [e8] at hk; injection hk with hk; injection hk with hk; subst hk; exact ⟨_, _, _, hc8⟩
  have keepO : ∀ {v : Value} {n : Nat} {xs : List Value}, w.ownsRow base 9 1 v n xs → v.ownBlock ≠ some db → w'.ownsRow base 9 1 v n xs := fun hov hnd =>
    hF.owns hov (fun g hg hS => by
      rcases hS with e9 | e9
      · exact hnd (by rw [hg, e9])
      · obtain ⟨a9, b9, c9, h9⟩ := hcn g e9
        exact owns_not_chan hov hg h9 rfl)
  refine ⟨c, ⟨(ho 0 (by omega)).1.trans h.c0, (ho 1 (by omega)).1.trans h.c1, (ho 2 (by omega)).1.trans h.c2, (ho 3 (by omega)).1.trans h.c3, (ho 4 (by omega)).1.trans h.c4, (ho 5 (by omega)).1.trans h.c5, hc6, fun k hk => ?_, keepO h.o4 h.n4, keepO h.o5 h.n5, h.n4, h.n5, h.n45, .inr ⟨c, cap, s, r, rfl, hch, hl, hl2⟩, h.bs, fun c9 e9 => ?_⟩, hfrom, hF⟩
  · by_cases e9 : k = 6
    · rw [e9]; exact hf6
    · exact (ho k e9).2.trans (h.fz k hk)
  · injection e9 with e9; injection e9 with e9; subst e9
    rcases hfrom with e9 | e9
    · exact h.bc c e9
    · omega
end

set_option maxHeartbeats 2000000 in
set_option maxRecDepth 100000 in
theorem dev_write (db base k : Nat) (m lf : Int) (sy nw : List ByteArray) (ws : List Wr) (v4 v5 cv : Value) (s : ByteArray) (w : World) (h : DevI db base m true false lf sy nw ws v4 v5 cv w) (hb : base ≤ w.heap.size) (hk : k < nw.length) (hn : nw.length ≤ 3000) (hs : s.size = 256) (hw : ws.length ≤ 1000) :
    Calls Tryd.prog 17 #[.pointer (some ⟨db, 0, none⟩), .int .i64 k, .string s] w fun e w' => e = .returned (.int .i64 0) ∧ ∃ c, DevI db base m true false lf sy (nw.set k s) (ws ++ [((k : Int), s)]) v4 v5 (.chan (some c)) w' ∧ (cv = .chan (some c) ∨ w.heap.size ≤ c) ∧ Fr (devF db v4 v5 cv) w w' := by
  have HOFF := Lib.hid (dev_off db true w h.c1)
  have HOP := Lib.hid (dev_op_plain db w h.c2)
  have HCL := Lib.hid (fun w => clone_str s w (by omega))
  obtain ⟨g, cap, hv, hg1, hg2, hg3⟩ := owns_len h.o5 (by omega)
  subst hv
  have hc5 := h.c5
  have HH := Lib.hid h
  have hlen : ((s.size : Nat) : Int) = 256 := by omega
  have hne : ((s.size : Int) != 256) = false := by rw [hlen]; rfl
  have HS := Lib.hid hs
  clear h hs hlen
  have hk0 : ¬ ((k : Int) < 0) := by omega
  go_enter Tryd.func17, Tryd.ntmps17
  go_wp2_with fail
  refine HOFF.out.mono ?_
  rintro e w1 ⟨rfl, rfl⟩
  go_wp2_with fail
  refine HOP.out.mono ?_
  rintro e w1 ⟨rfl, rfl⟩
  go_wp2_with fail
  refine (HCL.out _).mono ?_
  rintro e w2 ⟨rfl, hb2⟩
  have hI2 := HH.out.keep (Fr.of_all (S := fun _ => False) hb2) (fun _ _ h => h)
  have hc52 := hI2.c5
  have hst := hI2.set5 k hk s
  have hcell : ∃ u, w2.cell? ⟨g, k, none⟩ = some u := ⟨_, by
    have e := hI2.o5.cells (g := g) rfl k (.string (nw.getD k default)) (by
      have r0 := rowOf_at scells scells_length nw k 0 hk (by omega)
      rw [Nat.mul_one, Nat.add_zero] at r0
      exact r0)
    rw [add_at0] at e
    exact e⟩
  obtain ⟨u, hcell⟩ := hcell
  have hfz := hI2.o5.frozenAt k
  have HPU := Lib.hid (put_wait db cv (k : Int) s ws (w2.setCell ⟨g, k, none⟩ (.string s)) hst.1.c6 (hst.1.fz 6 (by omega)) hst.1.ch hw)
  have HST := Lib.hid hst
  have HB2 := Lib.hid hb2
  have hb2s := hb2.size
  clear hst hb2 hI2 HOFF HOP HCL
  go_wp2_with fail
  refine HPU.out.mono ?_
  intro e w3 hp
  have he : e = .returned (.tuple #[]) := hp.1
  subst he
  have hbs : base ≤ (w2.setCell ⟨g, k, none⟩ (.string s)).heap.size := Nat.le_trans (Nat.le_trans hb hb2s) HST.out.2.size
  obtain ⟨c, hI3, hfrom, hF3⟩ := HST.out.1.waits hbs hp
  have HI3 := Lib.hid hI3
  have HF3 := Lib.hid hF3
  have HFR := Lib.hid hfrom
  clear hI3 hF3 hfrom hp HPU
  go_wp2
  go_ret
  refine ⟨rfl, c, HI3.out, ?_, ?_⟩
  · rcases HFR.out with e9 | e9
    · exact .inl e9
    · exact .inr (Nat.le_trans (Nat.le_trans hb2s HST.out.2.size) e9)
  · refine Fr.trans (Fr.trans (Fr.of_all HB2.out) HST.out.2 (fun i hi _ => ?_)) HF3.out (fun i hi _ => ?_)
    · exact .inr (.inr (.inl (by rw [hi]; rfl)))
    · rcases hi with e9 | e9
      · exact .inl e9
      · exact .inr (.inr (.inr e9))
end Go.Proofs.YtpoiopjggmhnjaaDoor
