/- Merged texts: DevG DevW DevS Fill Torn Sink Crash Dv DvC. -/
import Derived.Test.YtlocadmiomglaaaGreatDoorB4
import Derived.Test.YtlocadmiomglaaaGreatDoorShelf
import Derived.OwnWalk
import Derived.Laws.IdiomStrings
import Derived.Laws.BitsLemmas
import Derived.Shelf.Strings.BuilderK
import Derived.Test.YtlocadmiomglaaaGreatDoorRows
import Derived.WalkKit
import Derived.StillTail
import Derived.OrdersHeld
import Derived.Deep.RegionHeld
import Derived.Test.YtlocadmiomglaaaGreatDoorB1
import Derived.Deep.DrawnRows
import Derived.Test.YtlocadmiomglaaaGreatDoorB2
/- dev: the contract of Grow, of a device that has power and no fuse. -/
namespace Go.Proofs.YtlocadmiomglaaaGreatDoor
open Go.RowKit Go.Conc

def page0 : ByteArray := ⟨(Lib.repeatL [0] 256).toArray⟩

/-- Between two rounds of Grow: k pages have been made. -/
def GrowRel (pg : ByteArray) (db base : Nat) (m : Int) (lf : Int) (sy nw : List ByteArray) (ws : List Wr) (v4 v5 cv : Value) (w : World) (k : Nat) (wr : World) : Prop :=
  ∃ u4 u5, DevI db base m true false lf (sy ++ List.replicate k pg) (nw ++ List.replicate k pg) ws u4 u5 cv wr ∧ Fr (devF db v4 v5 cv) w wr ∧
    (∀ g, u4.ownBlock = some g → Lies v4 g w.heap.size) ∧ (∀ g, u5.ownBlock = some g → Lies v5 g w.heap.size)

/-- How many pages there are. -/
def lenAt (db : Nat) (w : World) : Nat := match w.cell? ⟨db, 5, none⟩ with | some (.slice _ n _) => n | _ => 0
theorem lenAt_of {db n c : Nat} {p : Option Addr} {w : World} (h : w.cell? ⟨db, 5, none⟩ = some (.slice p n c)) : lenAt db w = n := by unfold lenAt; rw [h]

set_option maxHeartbeats 2000000 in
set_option maxRecDepth 100000 in
theorem dev_grow (pg : ByteArray) (hrp : ∀ w, Calls Tryz.prog 119 #[.string ⟨#[0]⟩, .int .i64 256] w fun e w' => e = .returned (.string pg) ∧ Below w.heap.size w w') (db base n : Nat) (m lf : Int) (sy nw : List ByteArray) (ws : List Wr) (v4 v5 cv : Value) (w : World) (h : DevI db base m true false lf sy nw ws v4 v5 cv w) (hb : base ≤ w.heap.size) (hn : nw.length ≤ n) (hs : sy.length = nw.length) (hm : (n : Int) ≤ m) (hm2 : m ≤ 3000) :
    Calls Tryz.prog 39 #[.pointer (some ⟨db, 0, none⟩), .int .i64 n] w fun e w' => e = .returned (.int .i64 0) ∧ GrowRel pg db base m lf sy nw ws v4 v5 cv w (n - nw.length) w' := by
  obtain ⟨i0, hi0, hz0, hz1, hz2⟩ := info_parts info_string
  have HH := Lib.hid h
  have hc0 := h.c0
  have HOFF := Lib.hid (dev_off db true w h.c1)
  have HOP := Lib.hid (dev_op_plain db w h.c2)
  obtain ⟨p5, d5, rfl⟩ := owns_slice h.o5
  have hc5 := h.c5
  have HSY := Lib.hid hs
  clear h hs
  have HRP := Lib.hid hrp
  clear hrp
  have h1 : ¬ ((n : Int) < (nw.length : Int)) := by omega
  have h2 : ¬ (m < (n : Int)) := by omega
  go_enter Tryz.func39, Tryz.ntmps39
  go_wp2_with fail
  refine HOFF.out.mono ?_
  rintro e w1 ⟨rfl, rfl⟩
  go_wp2_with fail
  refine HOP.out.mono ?_
  rintro e w1 ⟨rfl, rfl⟩
  go_wp2_with fail
  refine (HRP.out _).mono ?_
  rintro e w2 ⟨rfl, hb2⟩
  have HST : Hid (GrowRel pg db base m lf sy nw ws v4 (.slice p5 nw.length d5) cv w1 0 w2) := ⟨v4, _, by simpa using HH.out.keep (Fr.of_all (S := fun _ => False) hb2) (fun _ _ h => h), Fr.of_all hb2, fun g hg => .inl hg, fun g hg => .inl hg⟩
  clear hb2 HOFF HOP HRP
  go_wp2
  go_loopw [29] (fun _ wr => ∃ k, nw.length + k ≤ n ∧ GrowRel pg db base m lf sy nw ws v4 (.slice p5 nw.length d5) cv w1 k wr) (fun _ wr => n - lenAt db wr)
  case atStart => exact ⟨0, by omega, HST.out⟩
  case round =>
    clear HST
    obtain ⟨k, hk, u4, u5, hI, hF, hL4, hL5⟩ := hrel
    obtain ⟨q5, e5, rfl⟩ := owns_slice hI.o5
    obtain ⟨q4, e4, rfl⟩ := owns_slice hI.o4
    have hlen5 : (nw ++ List.replicate k pg).length = nw.length + k := by simp
    have hlen4 : (sy ++ List.replicate k pg).length = nw.length + k := by simp [HSY.out]
    rw [hlen5] at hI hL5
    rw [hlen4] at hI hL4
    have hc5r := hI.c5
    have hc4r := hI.c4
    have hf5 := hI.fz 5 (by omega)
    have hf4 := hI.fz 4 (by omega)
    have hdl : db < wr.heap.size := cell_lt hI.c0
    have hbr : base ≤ wr.heap.size := Nat.le_trans hb hF.size
    have HI := Lib.hid hI
    have HF := Lib.hid hF
    have HL4 := Lib.hid hL4
    have HL5 := Lib.hid hL5
    have HLS := Lib.hid hlen4
    have HLN := Lib.hid hlen5
    clear hI hF hL4 hL5 hlen5 hlen4
    by_cases hlt : nw.length + k < n
    · go_wp2_with (first
        | (at_builtin; refine wpList_append_lies _ rfl _ _ 45 rfl base 9 i0 _ 1 16 Tryz.underlying45 hi0 hz0 hz1 hz2 rfl (by omega) (.slice q5 (nw.length + k) e5) (nw.length + k) (rowOf scells (nw ++ List.replicate k pg)) rfl ?own ⟨wr.heap.size, 0, none⟩ 1 1 [.string pg] rfl rfl ?cells ?one (by omega) ?len ?bytes ?base (wr.heap.size + 1) (by simp) ?_; (case own => exact ((by simpa using HI.out.o5 : wr.ownsRow base 9 1 (.slice q5 (nw.length + k) e5) (nw.length + k) (rowOf scells (nw ++ List.replicate k pg)))).alloc _); (case cells => exact new_cells wr _ _); (case one => simp [Value.oneCell']); (case len => unfold maxLen; omega); (case bytes => omega); (case base => simp; omega); intro g cap w3 hown hgr hat hg
           have hA := HI.out.app5 (e := pg) (by simpa using hown) hgr hat
           rw [HLN.out] at hA
           have hd3 : w3.heap[db]? = wr.heap[db]? := (hgr.block db (by simp; omega) (fun e => HI.out.n5 e.symm)).trans (Below.heap_alloc wr _ db hdl)
           have hc3 := (World.cell?_of_block (a := ⟨db, 5, none⟩) hd3).trans hc5r
           have hf3 := (World.frozen?_of_block (a := ⟨db, 5, none⟩) hd3).trans hf5
           have HA := Lib.hid hA
           have HAT := Lib.hid hat
           have hc34 := (World.cell?_of_block (a := ⟨db, 4, none⟩) hd3).trans hc4r
           have hf34 := (World.frozen?_of_block (a := ⟨db, 4, none⟩) hd3).trans hf4
           have hs3 : wr.heap.size + 1 ≤ w3.heap.size := by have := hgr.size; simpa using this
           clear hown hgr hA hd3 hat)
        | (at_builtin; refine wpList_append_lies _ rfl _ _ 45 rfl base 9 i0 _ 1 16 Tryz.underlying45 hi0 hz0 hz1 hz2 rfl (by omega) (.slice q4 (nw.length + k) e4) (nw.length + k) (rowOf scells (sy ++ List.replicate k pg)) rfl ?own ⟨w3.heap.size, 0, none⟩ 1 1 [.string pg] rfl rfl ?cells ?one (by omega) ?len ?bytes ?base (w3.heap.size + 1) ?siz ?_; go_must (case own => exact ((by have e := HA.out.1.o4; rw [HLS.out] at e; exact e : World.ownsRow _ base 9 1 (.slice q4 (nw.length + k) e4) (nw.length + k) (rowOf scells (sy ++ List.replicate k pg)))).alloc _); go_must (case cells => intro j u hu; have e := new_cells (w3.setCell ⟨db, 5, none⟩ (.slice (some ⟨g, 0, none⟩) (nw.length + k + 1) cap)) [.string pg] 9 j u hu; rw [show (w3.setCell ⟨db, 5, none⟩ (.slice (some ⟨g, 0, none⟩) (nw.length + k + 1) cap)).heap.size = w3.heap.size by simp [World.setCell]] at e; exact e); (case one => simp [Value.oneCell']); (case len => unfold maxLen; omega); (case bytes => omega); go_must (case base => simp; omega); go_must (case siz => simp); intro g2 cap2 w5 hown2 hgr2 hat2 hg2
           have HOW2 := Lib.hid hown2
           have HGR2 := Lib.hid hgr2
           have HAT2 := Lib.hid hat2
           have hd5 : w5.heap[db]? = (w3.setCell ⟨db, 5, none⟩ (.slice (some ⟨g, 0, none⟩) (nw.length + k + 1) cap)).heap[db]? := (hgr2.block db (by simp; omega) (fun e => HI.out.n4 e.symm)).trans (Below.heap_alloc _ _ db (by simp [World.setCell]; omega))
           have hc54 := (World.cell?_of_block (a := ⟨db, 4, none⟩) hd5)
           have hf54 := (World.frozen?_of_block (a := ⟨db, 4, none⟩) hd5)
           rw [World.cell?_setCell_other _ _ _ _ (by intro e9; injection e9 with _ e9 _; omega), hc34] at hc54
           rw [frozen_set, hf34] at hf54
           clear hown2 hgr2 hat2 hd5)
        | fail)
      have hs1 : (w3.setCell ⟨db, 5, none⟩ (.slice (some ⟨g, 0, none⟩) (nw.length + k + 1) cap)).heap.size = w3.heap.size := by simp [World.setCell]
      have hB := HA.out.1.app4 (e := pg) (by rw [HLS.out]; exact HOW2.out) HGR2.out (by rw [hs1]; exact HAT2.out)
      rw [HLS.out] at hB
      have hsw := HF.out.size
      have erep : List.replicate k pg ++ [pg] = List.replicate (k + 1) pg := by rw [List.replicate_succ']
      have sub4 : ∀ i, i < w1.heap.size → (Value.slice q4 (nw.length + k) e4).ownBlock = some i → v4.ownBlock = some i := fun i hi h9 => (HL4.out i h9).resolve_right (by omega)
      have sub5 : ∀ i, i < w1.heap.size → (Value.slice q5 (nw.length + k) e5).ownBlock = some i → (Value.slice p5 nw.length d5).ownBlock = some i := fun i hi h9 => (HL5.out i h9).resolve_right (by omega)
      have l5 : ∀ g9, (Value.slice (some ⟨g, 0, none⟩) (nw.length + k + 1) cap).ownBlock = some g9 → Lies (.slice p5 nw.length d5) g9 w1.heap.size := fun g9 h9 => by
        have h9 : g = g9 := by simpa [Value.ownBlock] using h9
        subst h9
        rcases HAT.out with e9 | e9
        · exact HL5.out g e9
        · exact .inr (by omega)
      refine ⟨⟨k + 1, by omega, .slice (some ⟨g2, 0, none⟩) (nw.length + k + 1) cap2, .slice (some ⟨g, 0, none⟩) (nw.length + k + 1) cap, ?_, ?_, ?_, l5⟩, ?_⟩
      · have h9 := hB.1
        rw [List.append_assoc, List.append_assoc, erep] at h9
        exact h9
      · refine Fr.trans (Fr.trans HF.out HA.out.2 (fun i hi hlt9 => ?_)) hB.2 (fun i hi hlt9 => ?_)
        · rcases hi with hi | hi | hi | hi
          · exact .inl hi
          · exact .inr (.inl (sub4 i hlt9 hi))
          · exact .inr (.inr (.inl (sub5 i hlt9 hi)))
          · exact .inr (.inr (.inr hi))
        · rcases hi with hi | hi | hi | hi
          · exact .inl hi
          · exact .inr (.inl (sub4 i hlt9 hi))
          · exact .inr (.inr (.inl ((l5 i hi).resolve_right (by omega))))
          · exact .inr (.inr (.inr hi))
      · intro g9 h9
        have h9 : g2 = g9 := by simpa [Value.ownBlock] using h9
        subst h9
        rcases HAT2.out with e9 | e9
        · exact HL4.out g2 e9
        · exact .inr (by omega)
      · rw [lenAt_of hB.1.c5, lenAt_of hc5r]
        omega
    · go_wp2
      go_ret
      refine ⟨rfl, _, _, ?_, HF.out, HL4.out, HL5.out⟩
      have e : n - nw.length = k := by omega
      rw [e]
      exact HI.out
end Go.Proofs.YtlocadmiomglaaaGreatDoor

/- dev: strings.Clone; the contract of Write, of a device that has power and no fuse. -/
namespace Go.Proofs.YtlocadmiomglaaaGreatDoor
open Go.RowKit Go.Conc

set_option maxRecDepth 100000 in
theorem clone_str (s : ByteArray) (w : World) (hs : s.size ≤ 1000000) :
    Calls Tryz.prog 34 #[.string s] w fun e w' => e = .returned (.string s) ∧ Below w.heap.size w w' := by
  have HC := Lib.hid (Tryz.stringslite_Clone s w (by omega))
  go_enter Tryz.func34, Tryz.ntmps34
  go_wp2_with fail
  refine HC.out.mono ?_
  rintro e w' ⟨rfl, hb⟩
  go_wp2
  go_ret
  exact ⟨rfl, hb⟩

section
variable {db base : Nat} {m lf : Int} {on fu : Bool} {sy nw : List ByteArray} {ws : List Wr} {v4 cv : Value} {w : World}

/-- A page is stored. -/
theorem DevI.set5 {g n cap : Nat} (h : DevI db base m on fu lf sy nw ws v4 (.slice (some ⟨g, 0, none⟩) n cap) cv w) (k : Nat) (hk : k < nw.length) (x : ByteArray) :
    DevI db base m on fu lf sy (nw.set k x) ws v4 (.slice (some ⟨g, 0, none⟩) n cap) cv (w.setCell ⟨g, k, none⟩ (.string x)) ∧ Fr (fun i => i = g) w (w.setCell ⟨g, k, none⟩ (.string x)) := by
  have hn : n = nw.length := by
    obtain ⟨p, cp, hv⟩ := owns_slice h.o5
    injection hv
  subst hn
  have s1 := h.o5.stored k (.string x)
  have hF : Fr (fun i => i = g) w (w.setCell ⟨g, k, none⟩ (.string x)) := (Fr.refl (fun i => i = g) w).setCell (p := ⟨g, k, none⟩) (fun _ => rfl) _
  have hdl : db < w.heap.size := cell_lt h.c0
  have hne : db ≠ g := fun e => h.n5 (by rw [e]; rfl)
  have cc : ∀ o, (w.setCell ⟨g, k, none⟩ (.string x)).cell? ⟨db, o, none⟩ = w.cell? ⟨db, o, none⟩ := fun o => hF.cell (p := ⟨db, o, none⟩) hdl hne
  refine ⟨⟨(cc 0).trans h.c0, (cc 1).trans h.c1, (cc 2).trans h.c2, (cc 3).trans h.c3, (cc 4).trans h.c4, (cc 5).trans h.c5, (cc 6).trans h.c6, fun o ho => (frozen_set _ _ _ _).trans (h.fz o ho), hF.owns h.o4 (fun x9 hx e9 => h.n45 x9 hx (by rw [e9]; rfl)), ?_, h.n4, h.n5, h.n45, h.ch.keep hF (fun c e9 => ?_), h.bs, h.bc⟩, hF⟩
  · rw [List.length_set, ← rowOf_set1 scells scells_length nw k x _ rfl hk]
    exact s1.1
  · rcases h.ch with ⟨e8, _⟩ | ⟨c8, cap8, s8, r8, e8, hc8, _⟩
    · rw [e8] at e9; cases e9
    · rw [e8] at e9; injection e9 with e9; injection e9 with e9; subst e9; intro h9; exact owns_not_chan h.o5 (g := g) rfl hc8 h9.symm

/-- A write waits. -/
theorem DevI.waits {v5 : Value} {x : Wr} {e : Ending} {w' : World} (h : DevI db base m on fu lf sy nw ws v4 v5 cv w) (hb : base ≤ w.heap.size) (hp : PutPost db cv x ws w e w') :
    ∃ c, DevI db base m on fu lf sy nw (ws ++ [x]) v4 v5 (.chan (some c)) w' ∧ (cv = .chan (some c) ∨ w.heap.size ≤ c) ∧ Fr (fun k => k = db ∨ cv = .chan (some k)) w w' := by
  obtain ⟨_, c, cap, s, r, hc6, hf6, hch, hl, hl2, hfrom, hF, ho⟩ := hp
  have hcn : ∀ k, cv = .chan (some k) → ∃ cap s r, w.heap[k]? = some (chanOf cap s r ws) := by
    intro k hk
    rcases h.ch with ⟨e8, _⟩ | ⟨c8, cap8, s8, r8, e8, hc8, _⟩
    · rw [e8] at hk; cases hk
    · rw [e8] at hk; injection hk with hk; injection hk with hk; subst hk; exact ⟨_, _, _, hc8⟩
  have keepO : ∀ {v : Value} {n : Nat} {xs : List Value}, w.ownsRow base 9 1 v n xs → v.ownBlock ≠ some db → w'.ownsRow base 9 1 v n xs := fun hov hnd =>
    hF.owns hov (fun g hg hS => by
      rcases hS with e9 | e9
      · exact hnd (by rw [hg, e9])
      · obtain ⟨a9, b9, c9, h9⟩ := hcn g e9
        exact owns_not_chan hov hg h9 rfl)
  refine ⟨c, ⟨(ho 0 (by omega)).1.trans h.c0, (ho 1 (by omega)).1.trans h.c1, (ho 2 (by omega)).1.trans h.c2, (ho 3 (by omega)).1.trans h.c3, (ho 4 (by omega)).1.trans h.c4, (ho 5 (by omega)).1.trans h.c5, hc6, fun k hk => ?_, keepO h.o4 h.n4, keepO h.o5 h.n5, h.n4, h.n5, h.n45, .inr ⟨c, cap, s, r, rfl, hch, hl, hl2⟩, h.bs, fun c9 e9 => ?_⟩, hfrom, hF⟩
  · by_cases e9 : k = 6
    · rw [e9]; exact hf6
    · exact (ho k e9).2.trans (h.fz k hk)
  · injection e9 with e9; injection e9 with e9; subst e9
    rcases hfrom with e9 | e9
    · exact h.bc c e9
    · omega
end

end Go.Proofs.YtlocadmiomglaaaGreatDoor

/- dev: slices.Clone at strings; the contract of Sync, of a device that has power and no fuse. -/
namespace Go.Proofs.YtlocadmiomglaaaGreatDoor
open Go.RowKit Go.Conc

theorem rowOf_smap (zs : List ByteArray) : rowOf scells zs = zs.map Value.string := by
  induction zs with
  | nil => rfl
  | cons x zs ih => simp only [rowOf, List.flatMap_cons, List.map_cons] at *; rw [ih]; rfl


section
variable {db base : Nat} {m lf : Int} {on fu : Bool} {sy nw ss : List ByteArray} {ws : List Wr} {v4 v5 cv u : Value} {w : World}
/-- Another row of pages, a new one, is what is synced. -/
theorem DevI.sync (h : DevI db base m on fu lf sy nw ws v4 v5 cv w) {B : Nat} (hB : base ≤ B) (hu : w.ownsRow B 9 1 u ss.length (rowOf scells ss)) (hdb : db < B) (h5 : ∀ g, v5.ownBlock = some g → g < B) :
    DevI db base m on fu lf ss nw ws u v5 cv (w.setCell ⟨db, 4, none⟩ u) ∧ Fr (fun k => k = db) w (w.setCell ⟨db, 4, none⟩ u) := by
  have hF : Fr (fun k => k = db) w (w.setCell ⟨db, 4, none⟩ u) := (Fr.refl (fun i => i = db) w).setCell (fun _ => rfl) _
  have co : ∀ o, o ≠ 4 → (w.setCell ⟨db, 4, none⟩ u).cell? ⟨db, o, none⟩ = w.cell? ⟨db, o, none⟩ := fun o ho => World.cell?_setCell_other _ _ _ _ (by intro e9; injection e9 with _ e9 _; omega)
  have hun : u.ownBlock ≠ some db := fun e => by have := (hu.lt db e).1; omega
  refine ⟨⟨(co 0 (by omega)).trans h.c0, (co 1 (by omega)).trans h.c1, (co 2 (by omega)).trans h.c2, (co 3 (by omega)).trans h.c3, cell_set_same w ⟨db, 4, none⟩ u v4 h.c4, (co 5 (by omega)).trans h.c5, (co 6 (by omega)).trans h.c6, fun o ho => (frozen_set _ _ _ _).trans (h.fz o ho), ?_, hF.owns h.o5 (fun g hg e => h.n5 (by rw [hg, e])), hun, h.n5, fun g hg e => ?_, h.ch.keep hF (fun c e9 h9 => ?_), h.bs, h.bc⟩, hF⟩
  · have e := hF.owns hu (fun g hg e => hun (by rw [hg, e]))
    refine ⟨e.1, ?_⟩
    rcases e.2 with e | ⟨g, c, cur, e, hb, rest⟩
    · exact .inl e
    · exact .inr ⟨g, c, cur, e, by omega, rest⟩
  · have h1 := (hu.lt g hg).1
    have h2 := h5 g e
    omega
  · rcases h.ch with ⟨e8, _⟩ | ⟨c8, cap8, s8, r8, e8, hc8, _⟩
    · rw [e8] at e9; cases e9
    · rw [e8] at e9; injection e9 with e9; injection e9 with e9; subst e9; exact not_chan h.c0 hc8 h9.symm

theorem DevI.drained {w' : World} {ws' : List Wr} (h : DevI db base m on fu lf sy nw ws v4 v5 cv w) (hF : Fr (fun k => cv = .chan (some k)) w w') (hc : ChanI w' cv ws') : DevI db base m on fu lf sy nw ws' v4 v5 cv w' := by
  have hdl : db < w.heap.size := cell_lt h.c0
  have hcn : ∀ k, cv = .chan (some k) → ∃ cap s r, w.heap[k]? = some (chanOf cap s r ws) := by
    intro k hk
    rcases h.ch with ⟨e8, _⟩ | ⟨c8, cap8, s8, r8, e8, hc8, _⟩
    · rw [e8] at hk; cases hk
    · rw [e8] at hk; injection hk with hk; injection hk with hk; subst hk; exact ⟨_, _, _, hc8⟩
  have hdb : cv ≠ .chan (some db) := fun e => by
    obtain ⟨a9, b9, c9, h9⟩ := hcn db e
    exact not_chan h.c0 h9 rfl
  have cc : ∀ o, w'.cell? ⟨db, o, none⟩ = w.cell? ⟨db, o, none⟩ := fun o => hF.cell (p := ⟨db, o, none⟩) hdl hdb
  have ff : ∀ o, w'.frozen? ⟨db, o, none⟩ = w.frozen? ⟨db, o, none⟩ := fun o => hF.frozen (p := ⟨db, o, none⟩) hdl hdb
  have ko : ∀ {v : Value} {n : Nat} {xs : List Value}, w.ownsRow base 9 1 v n xs → w'.ownsRow base 9 1 v n xs := fun hov => hF.owns hov (fun g hg e => by
    obtain ⟨a9, b9, c9, h9⟩ := hcn g e
    exact owns_not_chan hov hg h9 rfl)
  exact ⟨(cc 0).trans h.c0, (cc 1).trans h.c1, (cc 2).trans h.c2, (cc 3).trans h.c3, (cc 4).trans h.c4, (cc 5).trans h.c5, (cc 6).trans h.c6, fun k hk => (ff k).trans (h.fz k hk), ko h.o4, ko h.o5, h.n4, h.n5, h.n45, hc, h.bs, h.bc⟩
end

end Go.Proofs.YtlocadmiomglaaaGreatDoor

/- arboretumlaw2.Filled: a page of one byte, with another one at a place. -/
namespace Go.Proofs.YtlocadmiomglaaaGreatDoor
open Go.RowKit Go.Conc

theorem info_u8 : (Tryz.prog.info? 5).map (fun i => (i.zero, i.size, i.bytes)) = some (some (.int .u8 0), 1, 1) := by kernel_rfl
def fillL (b k : Nat) : List UInt8 := (List.range 256).map (fun i => if i = k then UInt8.ofNat (b + 1) else UInt8.ofNat b)
def fill (b k : Nat) : ByteArray := ⟨(fillL b k).toArray⟩

theorem i64_and255 (n : Int) : bits .and .i64 n 255 = n % 256 := by
  have h255 : (BitVec.ofInt 64 255).toNat = 2 ^ 8 - 1 := by decide
  have key : (BitVec.ofInt 64 n &&& BitVec.ofInt 64 255).toNat = (n % ((2 ^ 64 : Nat) : Int)).toNat % 2 ^ 8 := by
    rw [BitVec.toNat_and, BitVec.toNat_ofInt, h255, Nat.and_two_pow_sub_one_eq_mod]
  show IntKind.i64.wrap ((BitVec.ofInt 64 n &&& BitVec.ofInt 64 255).toNat : Nat) = n % 256
  rw [key, IntKind.wrap_i64]
  omega

theorem fillL_length (b k : Nat) : (fillL b k).length = 256 := by simp [fillL]
theorem fillL_at (b k : Nat) (hb : b < 256) (j : Nat) (hj : j < (fillL b k).length) : (((fillL b k)[j]).toNat : Int) = if j = k then ((b : Int) + 1) % 256 else (b : Int) := by
  have hj' : j < 256 := by rw [fillL_length] at hj; exact hj
  simp only [fillL, List.getElem_map, List.getElem_range]
  by_cases e : j = k
  · rw [if_pos e, if_pos e]
    simp
  · rw [if_neg e, if_neg e]
    simp
    omega

end Go.Proofs.YtlocadmiomglaaaGreatDoor

/- dev: torn, a page of which some sectors were written. -/
namespace Go.Proofs.YtlocadmiomglaaaGreatDoor
open Go.RowKit Go.Conc

theorem i64_and1 (n : Int) : bits .and .i64 n 1 = n % 2 := by
  have h1 : (BitVec.ofInt 64 1).toNat = 2 ^ 1 - 1 := by decide
  have key : (BitVec.ofInt 64 n &&& BitVec.ofInt 64 1).toNat = (n % ((2 ^ 64 : Nat) : Int)).toNat % 2 ^ 1 := by
    rw [BitVec.toNat_and, BitVec.toNat_ofInt, h1, Nat.and_two_pow_sub_one_eq_mod]
  show IntKind.i64.wrap ((BitVec.ofInt 64 n &&& BitVec.ofInt 64 1).toNat : Nat) = n % 2
  rw [key, IntKind.wrap_i64]
  omega

def sect (s : List UInt8) (i : Nat) : List UInt8 := (s.drop (32 * i)).take 32
/-- Is the bit set? -/
def bitAt (k i : Nat) : Bool := k / 2 ^ i % 2 == 1
def tornL (o d : List UInt8) (k n : Nat) : List UInt8 := (List.range n).flatMap fun i => sect (if bitAt k i then d else o) i
theorem tornL_succ (o d : List UInt8) (k n : Nat) : tornL o d k (n + 1) = tornL o d k n ++ sect (if bitAt k n then d else o) n := by
  unfold tornL
  rw [List.range_succ, List.flatMap_append]
  simp
theorem sect_length (s : List UInt8) (i : Nat) (h : s.length = 256) (hi : i < 8) : (sect s i).length = 32 := by
  unfold sect
  rw [List.length_take, List.length_drop]
  omega
theorem tornL_length (o d : List UInt8) (k n : Nat) (ho : o.length = 256) (hd : d.length = 256) (hn : n ≤ 8) : (tornL o d k n).length = 32 * n := by
  induction n with
  | zero => rfl
  | succ n ih =>
    rw [tornL_succ, List.length_append, ih (by omega), sect_length _ _ (by split <;> assumption) (by omega)]
    omega
def tornS (o d : ByteArray) (k : Nat) : ByteArray := ⟨(tornL o.data.toList d.data.toList k 8).toArray⟩

theorem sect_extract (s : ByteArray) (i : Nat) (hs : s.size = 256) : Lib.strCells (s.extract (i * 32) ((i + 1) * 32)) = Lib.byteCells (sect s.data.toList i) := by
  have hl : s.data.toList.length = 256 := by simpa using hs
  unfold Lib.strCells Lib.byteCells sect
  congr 1
  rw [ByteArray.data_extract, Array.toList_extract, List.extract_eq_take_drop]
  rw [show (i + 1) * 32 - i * 32 = 32 by omega, Nat.mul_comm]

theorem bit_int (k i : Nat) : bits .and .i64 ((k : Int) / 2 ^ i) 1 = if bitAt k i then 1 else 0 := by
  rw [i64_and1]
  unfold bitAt
  have e : ((k : Int) / 2 ^ i) = ((k / 2 ^ i : Nat) : Int) := by simp
  rw [e]
  generalize k / 2 ^ i = q
  by_cases h : q % 2 = 1
  · simp [h]; omega
  · simp [h]; omega

theorem lay_wstr : Lays.n166 Tryz.prog Tryz.lays105_ren := { Tryz.lays105 with }

theorem sect_next (o d : ByteArray) (k i : Nat) (x : ByteArray) (hx : x.size = 256) (he : (if bitAt k i then d.data.toList else o.data.toList) = x.data.toList) :
    Lib.byteCells (tornL o.data.toList d.data.toList k i ++ (x.extract (i * 32) ((i + 1) * 32)).data.toList) = Lib.byteCells (tornL o.data.toList d.data.toList k (i + 1)) := by
  rw [tornL_succ, he]
  have e := sect_extract x i hx
  unfold Lib.strCells at e
  unfold Lib.byteCells at *
  rw [List.map_append, List.map_append, e]

theorem torn_write (b : Nat) (l : List UInt8) (s : ByteArray) (w : World) (B : Nat) (h : Lib.IsBuilderF 155 5 B b (Lib.byteCells l) w) (hlen : l.length + s.size ≤ 100000) (hBw : B ≤ w.heap.size) :
    Calls Tryz.prog 115 #[.pointer (some ⟨b, 0, none⟩), .string s] w fun e w' => e = .returned (.tuple #[.int .i64 s.size, .nilIface]) ∧ Lib.IsBuilderF 155 5 B b (Lib.byteCells (l ++ s.data.toList)) w' ∧ Below B w w' := by
  refine (Any.Builder_WriteString_k lay_wstr Tryz.Builder_Extra_105 B b (Lib.byteCells l) s w h (by simp [Lib.byteCells]; omega) hBw).mono ?_
  rintro e w' ⟨he, h1, h2, _⟩
  refine ⟨he, .inr ?_, h2⟩
  have e1 : Lib.byteCells (l ++ s.data.toList) = Lib.byteCells l ++ Lib.strCells s := by simp [Lib.byteCells, Lib.strCells]
  rw [e1]
  exact h1


theorem tornS_size (o d : ByteArray) (k : Nat) (ho : o.size = 256) (hd : d.size = 256) : (tornS o d k).size = 256 := by
  have h := tornL_length o.data.toList d.data.toList k 8 (by simpa using ho) (by simpa using hd) (by omega)
  unfold tornS
  show (tornL o.data.toList d.data.toList k 8).toArray.size = 256
  rw [List.size_toArray, h]
end Go.Proofs.YtlocadmiomglaaaGreatDoor

/- A region that draws its order, whose last operation waits for all others: a condition on the world that holds till then serves to take loads first. No program in sight. -/
namespace Go.Proofs.YtlocadmiomglaaaGreatDoor
open Go.RowKit

section
variable {P : Program} {ops : Array Oper} {Q : Exit → Act → World → Prop} {md : Region.Mode} {S : World → Prop}

/-- Whatever order is picked; S holds behind every operation but number n. -/
def WpSink (P : Program) (md : Region.Mode) (ops : Array Oper) (Q : Exit → Act → World → Prop) (S : World → Prop) (n : Nat) : Nat → Array Bool → Act → World → Prop
  | 0, listed, a, w => Region.ready md ops listed = [] ∧ Q .normal a w
  | fuel + 1, listed, a, w =>
    (Region.ready md ops listed = [] → Q .normal a w) ∧
    ∀ i ∈ Region.ready md ops listed, wpOp P ops Q i (fun a' w' => (i ≠ n → S w') ∧ WpSink P md ops Q S n fuel (listed.setIfInBounds i true) a' w') a w

theorem any_of_sink {n : Nat} : ∀ (fuel : Nat) (listed : Array Bool) (a : Act) (w : World), WpSink P md ops Q S n fuel listed a w → wpAny P md ops Q fuel listed a w
  | 0, _, _, _, h => h
  | fuel + 1, _, _, _, h => ⟨h.1, fun i hi => wpOp_mono (fun _ _ h' => any_of_sink fuel _ _ _ h'.2) (h.2 i hi)⟩

theorem sink_first {n i : Nat} {oi : Oper} {v : Value} (hs : Region.sinkB md ops n = true) (hc : Region.chainB md ops n = true) (hn : n < ops.size) (hin : i < n) (hi : ops[i]? = some oi)
    (hsel : ∀ (j : Nat) (o : Oper) cs b, ops[j]? = some o → o.op ≠ .select cs b) (hQ : ∀ c a w, Q (.panic c) (a.put oi.dst v) w → Q (.panic c) a w) :
    ∀ (fuel : Nat) (listed : Array Bool) (a : Act) (w : World), HeadInv md ops n listed →
      (∀ j oj, ops[j]? = some oj → j ≠ i → listed.getD j true = false → (∀ e ∈ oj.after, Region.binds md e = true → e.on ≠ i) → oi.apart ops oj = true) →
      i ∈ Region.ready md ops listed → YieldsIf P ops S oi v a → S w →
      WpSink P md ops Q S n fuel (listed.setIfInBounds i true) (a.put oi.dst v) w → WpSink P md ops Q S n (fuel + 1) listed a w := by
  intro fuel
  induction fuel with
  | zero =>
    intro listed a w inv hfree hr hy hS H
    refine ⟨fun h => (by rw [h] at hr; cases hr), fun j hj => ?_⟩
    by_cases hji : j = i
    · subst hji; exact hy.wpOp hi hS ⟨fun _ => hS, H⟩
    · have h1 := ready_mono hj hji
      rw [H.1] at h1
      cases h1
  | succ fuel ih =>
    intro listed a w inv hfree hr hy hS H
    have hun := (mem_ready.1 hr).1
    refine ⟨fun h => (by rw [h] at hr; cases hr), fun j hj => ?_⟩
    by_cases hji : j = i
    · subst hji; exact hy.wpOp hi hS ⟨fun _ => hS, H⟩
    · have hjn : j < n := by
        rcases Nat.lt_or_ge j n with h | h
        · exact h
        · exact absurd hj (tail_waits hs hc hn inv _ i rfl hin hun j h)
      have h1 := H.2 j (ready_mono hj hji)
      obtain ⟨hjun, oj, hoj, hw⟩ := mem_ready.1 hj
      have hnot : ∀ e ∈ oj.after, Region.binds md e = true → e.on ≠ i := fun e he hb heq => by
        have h3 := hw e he hb
        rw [heq, getD_both hun] at h3
        cases h3
      have h2 := wpOp_putIf hoj (hfree j oj hoj hji hjun hnot) (fun cs b => hsel i oi cs b hi) (fun cs b => hsel j oj cs b hoj) hQ hy h1
      have hfree' : ∀ k ok, ops[k]? = some ok → k ≠ i → (listed.setIfInBounds j true).getD k true = false →
          (∀ e ∈ ok.after, Region.binds md e = true → e.on ≠ i) → oi.apart ops ok = true := fun k ok hk hki hkun hno => by
        refine hfree k ok hk hki ?_ hno
        by_cases hjk : j = k
        · subst hjk; exact hjun
        · rw [getD_set_ne true hjk] at hkun; exact hkun
      refine wpOp_mono (fun a' w' h3 => ⟨fun _ => h3.2.1 (by omega), ih (listed.setIfInBounds j true) a' w' (inv.set hj hjn) hfree' (ready_mono hr (Ne.symm hji)) h3.1 (h3.2.1 (by omega)) ?_⟩) h2
      rw [Array.setIfInBounds_comm _ _ hji]
      exact h3.2.2

/-- Number i is taken first. -/
theorem sink_take {n i : Nat} {oi : Oper} {v : Value} {fuel : Nat} {listed : Array Bool} {a : Act} {w : World} (hB : (Region.sinkB md ops n && Region.chainB md ops n && decide (n < ops.size) && Region.noSelect ops) = true) (inv : HeadInv md ops n listed) (hi : ops[i]? = some oi)
    (hf : (decide (i < n) && Region.free md ops listed i && (Region.ready md ops listed).contains i) = true)
    (hQ : ∀ c a w, Q (.panic c) (a.put oi.dst v) w → Q (.panic c) a w) (hy : YieldsIf P ops S oi v a) (hS : S w)
    (h : HeadInv md ops n (listed.setIfInBounds i true) → WpSink P md ops Q S n fuel (listed.setIfInBounds i true) (a.put oi.dst v) w) : WpSink P md ops Q S n (fuel + 1) listed a w := by
  simp only [Bool.and_eq_true, decide_eq_true_eq] at hB hf
  obtain ⟨⟨⟨h1, h2⟩, h3⟩, h5⟩ := hB
  obtain ⟨⟨h6, h7⟩, h8⟩ := hf
  have hr : i ∈ Region.ready md ops listed := by simpa using h8
  exact sink_first h1 h2 h3 h6 hi (Region.noSelect_spec h5) hQ fuel listed a w inv (Region.free_spec hi h7) hr hy hS (h (inv.set hr h6))

/-- One operation alone may come up. -/
theorem sink_one {n i : Nat} {o : Oper} {fuel : Nat} {listed : Array Bool} {a : Act} {w : World} (hr : Region.ready md ops listed = [i]) (hi : ops[i]? = some o) (hin : i < n) (inv : HeadInv md ops n listed)
    (h : ∀ K : Act → World → Prop, (∀ a' w', S w' → (S w' → HeadInv md ops n (listed.setIfInBounds i true) → WpSink P md ops Q S n fuel (listed.setIfInBounds i true) a' w') → K a' w') →
      if Region.wanted o (yielded ops a.tmps) = true then Oper.wp P o a w K Q else K (a.put o.dst undef) w) : WpSink P md ops Q S n (fuel + 1) listed a w := by
  refine ⟨fun h0 => (by rw [h0] at hr; cases hr), fun j hj => ?_⟩
  have hji : j = i := by rw [hr] at hj; simpa using hj
  subst hji
  have h9 := h (fun a' w' => (j ≠ n → S w') ∧ WpSink P md ops Q S n fuel (listed.setIfInBounds j true) a' w') (fun a' w' hS hK => ⟨fun _ => hS, hK hS (inv.set hj hin)⟩)
  unfold wpOp
  simp only [hi]
  split
  · rename_i hw
    rw [if_pos hw] at h9
    exact .inl h9
  · rename_i hw
    rw [if_neg hw] at h9
    exact h9

/-- The last one. -/
theorem sink_last {n : Nat} {o : Oper} {fuel : Nat} {listed : Array Bool} {a : Act} {w : World} (hr : Region.ready md ops listed = [n]) (hi : ops[n]? = some o) (hr2 : Region.ready md ops (listed.setIfInBounds n true) = [])
    (h : ∀ K : Act → World → Prop, (∀ a' w', Q .normal a' w' → K a' w') →
      if Region.wanted o (yielded ops a.tmps) = true then Oper.wp P o a w K Q else K (a.put o.dst undef) w) : WpSink P md ops Q S n (fuel + 1) listed a w := by
  refine ⟨fun h0 => (by rw [h0] at hr; cases hr), fun j hj => ?_⟩
  have hji : j = n := by rw [hr] at hj; simpa using hj
  subst hji
  have h9 := h (fun a' w' => (j ≠ j → S w') ∧ WpSink P md ops Q S j fuel (listed.setIfInBounds j true) a' w') (fun a' w' hq => ⟨fun h => absurd rfl h, by
    cases fuel with
    | zero => exact ⟨hr2, hq⟩
    | succ f => exact ⟨fun _ => hq, fun k hk => by rw [hr2] at hk; cases hk⟩⟩)
  unfold wpOp
  simp only [hi]
  split
  · rename_i hw
    rw [if_pos hw] at h9
    exact .inl h9
  · rename_i hw
    rw [if_neg hw] at h9
    exact h9

theorem region_sink {id n : Nat} {a : Act} {w : World} (S : World → Prop) (hm : P.follows .mixedOrders = true) (hsz : ops.size = n + 1) (hS : S w.drew)
    (h : HeadInv .any ops n (Array.replicate ops.size false) → S w.drew → WpSink P .any ops Q S n (n + 1) (Array.replicate (n + 1) false) a w.drew) : (Code.region id ops true).wp P Q a w := by
  refine wp_region_any hm (any_of_sink (S := S) (n := n) _ _ _ _ ?_)
  have inv : HeadInv .any ops n (Array.replicate ops.size false) := ⟨by simp, fun j oj _ hl => (by rw [getD_replicate_false] at hl; cases hl), fun t _ ht => (by simp [ht])⟩
  have h9 := h inv hS
  rw [hsz]
  exact h9
end
end Go.Proofs.YtlocadmiomglaaaGreatDoor

/- dev: Crash, some sectors of what was not synced stay. -/
namespace Go.Proofs.YtlocadmiomglaaaGreatDoor
open Go.RowKit Go.Conc
attribute [local go_sem ↓] Go.wp_at_zero Go.wp_at_succ

theorem bkeep {w w' : World} {p : Addr} {v : Value} (hb : Below w.heap.size w w') (h : w.cell? p = some v) : w'.cell? p = some v := (hb.cell (cell_lt h)).trans h
theorem bkeepF {w w' : World} {p : Addr} {v : Value} (hb : Below w.heap.size w w') (h : w.cell? p = some v) : w'.frozen? p = w.frozen? p := hb.frozen (cell_lt h)

/-- What stays of the first n writes. -/
def crashL (sy : List ByteArray) (ws : List Wr) (ks : List Int) : Nat → List ByteArray
  | 0 => sy
  | n + 1 => if n < ks.length then (crashL sy ws ks n).set (ws.getD n default).1.toNat (tornS ((crashL sy ws ks n).getD (ws.getD n default).1.toNat default) (ws.getD n default).2 ((HL.el ks n) % 256).toNat) else crashL sy ws ks n

/-- All pages, and all that waits, are whole pages of places that are there. -/
structure DevOK (sy nw : List ByteArray) (ws : List Wr) : Prop where
  len : nw.length = sy.length
  few : sy.length ≤ 3000
  s : ∀ x ∈ sy, x.size = 256
  n : ∀ x ∈ nw, x.size = 256
  w : ∀ x ∈ ws, x.2.size = 256 ∧ ∃ p : Nat, x.1 = p ∧ p < sy.length
  wl : ws.length ≤ 1000

theorem crashL_succ (sy : List ByteArray) (ws : List Wr) (ks : List Int) (n : Nat) : crashL sy ws ks (n + 1) = if n < ks.length then (crashL sy ws ks n).set (ws.getD n default).1.toNat (tornS ((crashL sy ws ks n).getD (ws.getD n default).1.toNat default) (ws.getD n default).2 ((HL.el ks n) % 256).toNat) else crashL sy ws ks n := rfl

theorem crashL_length (sy : List ByteArray) (ws : List Wr) (ks : List Int) (n : Nat) : (crashL sy ws ks n).length = sy.length := by
  induction n with
  | zero => rfl
  | succ n ih =>
    unfold crashL
    split
    · rw [List.length_set, ih]
    · exact ih

theorem getD_mem {α : Type} [Inhabited α] {l : List α} {n : Nat} (h : n < l.length) : l.getD n default ∈ l := by
  rw [List.getD_eq_getElem?_getD, List.getElem?_eq_getElem h]
  exact List.getElem_mem h

theorem crashL_size {sy nw : List ByteArray} {ws : List Wr} (ks : List Int) (h : DevOK sy nw ws) (n : Nat) (hn : n ≤ ws.length) : ∀ x ∈ crashL sy ws ks n, x.size = 256 := by
  induction n with
  | zero => exact h.s
  | succ n ih =>
    unfold crashL
    split
    · intro x hx
      obtain ⟨h2, p, h1, hp⟩ := h.w _ (getD_mem (l := ws) (n := n) (by omega))
      rcases List.mem_or_eq_of_mem_set hx with hx | rfl
      · exact ih (by omega) x hx
      · refine tornS_size _ _ _ (ih (by omega) _ (getD_mem ?_)) h2
        rw [crashL_length, h1]
        simpa using hp
    · exact ih (by omega)

section
variable {db base : Nat} {m lf : Int} {on fu : Bool} {sy nw ss : List ByteArray} {ws : List Wr} {v4 v5 cv u : Value} {w : World}

/-- A synced page is stored. -/
theorem DevI.set4 {g n cap : Nat} (h : DevI db base m on fu lf sy nw ws (.slice (some ⟨g, 0, none⟩) n cap) v5 cv w) (k : Nat) (hk : k < sy.length) (x : ByteArray) :
    DevI db base m on fu lf (sy.set k x) nw ws (.slice (some ⟨g, 0, none⟩) n cap) v5 cv (w.setCell ⟨g, k, none⟩ (.string x)) ∧ Fr (fun i => i = g) w (w.setCell ⟨g, k, none⟩ (.string x)) := by
  have hn : n = sy.length := by
    obtain ⟨p, cp, hv⟩ := owns_slice h.o4
    injection hv
  subst hn
  have s1 := h.o4.stored k (.string x)
  have hF : Fr (fun i => i = g) w (w.setCell ⟨g, k, none⟩ (.string x)) := (Fr.refl (fun i => i = g) w).setCell (p := ⟨g, k, none⟩) (fun _ => rfl) _
  have hdl : db < w.heap.size := cell_lt h.c0
  have hne : db ≠ g := fun e => h.n4 (by rw [e]; rfl)
  have cc : ∀ o, (w.setCell ⟨g, k, none⟩ (.string x)).cell? ⟨db, o, none⟩ = w.cell? ⟨db, o, none⟩ := fun o => hF.cell (p := ⟨db, o, none⟩) hdl hne
  refine ⟨⟨(cc 0).trans h.c0, (cc 1).trans h.c1, (cc 2).trans h.c2, (cc 3).trans h.c3, (cc 4).trans h.c4, (cc 5).trans h.c5, (cc 6).trans h.c6, fun o ho => (frozen_set _ _ _ _).trans (h.fz o ho), ?_, hF.owns h.o5 (fun x9 hx e9 => h.n45 g rfl (by rw [← e9]; exact hx)), h.n4, h.n5, h.n45, h.ch.keep hF (fun c e9 => ?_), h.bs, h.bc⟩, hF⟩
  · rw [List.length_set, ← rowOf_set1 scells scells_length sy k x _ rfl hk]
    exact s1.1
  · rcases h.ch with ⟨e8, _⟩ | ⟨c8, cap8, s8, r8, e8, hc8, _⟩
    · rw [e8] at e9; cases e9
    · rw [e8] at e9; injection e9 with e9; injection e9 with e9; subst e9; intro h9; exact owns_not_chan h.o4 (g := g) rfl hc8 h9.symm

/-- Another row of pages, a new one, is what is there now. -/
theorem DevI.renew (h : DevI db base m on fu lf sy nw ws v4 v5 cv w) {B : Nat} (hB : base ≤ B) (hu : w.ownsRow B 9 1 u ss.length (rowOf scells ss)) (hdb : db < B) (h4 : ∀ g, v4.ownBlock = some g → g < B) :
    DevI db base m on fu lf sy ss ws v4 u cv (w.setCell ⟨db, 5, none⟩ u) ∧ Fr (fun k => k = db) w (w.setCell ⟨db, 5, none⟩ u) := by
  have hF : Fr (fun k => k = db) w (w.setCell ⟨db, 5, none⟩ u) := (Fr.refl (fun i => i = db) w).setCell (fun _ => rfl) _
  have co : ∀ o, o ≠ 5 → (w.setCell ⟨db, 5, none⟩ u).cell? ⟨db, o, none⟩ = w.cell? ⟨db, o, none⟩ := fun o ho => World.cell?_setCell_other _ _ _ _ (by intro e9; injection e9 with _ e9 _; omega)
  have hun : u.ownBlock ≠ some db := fun e => by have := (hu.lt db e).1; omega
  refine ⟨⟨(co 0 (by omega)).trans h.c0, (co 1 (by omega)).trans h.c1, (co 2 (by omega)).trans h.c2, (co 3 (by omega)).trans h.c3, (co 4 (by omega)).trans h.c4, cell_set_same w ⟨db, 5, none⟩ u v5 h.c5, (co 6 (by omega)).trans h.c6, fun o ho => (frozen_set _ _ _ _).trans ((h.fz o ho)), hF.owns h.o4 (fun g hg e => h.n4 (by rw [hg, e])), ?_, h.n4, hun, fun g hg e => ?_, h.ch.keep hF (fun c e9 h9 => ?_), h.bs, h.bc⟩, hF⟩
  · have e := hF.owns hu (fun g hg e => hun (by rw [hg, e]))
    refine ⟨e.1, ?_⟩
    rcases e.2 with e | ⟨g, c, cur, e, hb, rest⟩
    · exact .inl e
    · exact .inr ⟨g, c, cur, e, by omega, rest⟩
  · have h1 := (hu.lt g e).1
    have h2 := h4 g hg
    omega
  · rcases h.ch with ⟨e8, _⟩ | ⟨c8, cap8, s8, r8, e8, hc8, _⟩
    · rw [e8] at e9; cases e9
    · rw [e8] at e9; injection e9 with e9; injection e9 with e9; subst e9; exact not_chan h.c0 hc8 h9.symm

/-- The power goes. -/
theorem DevI.dark (h : DevI db base m on fu lf sy nw ws v4 v5 cv w) : DevI db base m false false lf sy nw ws v4 v5 cv ((w.setCell ⟨db, 1, none⟩ (.bool false)).setCell ⟨db, 2, none⟩ (.bool false)) ∧ Fr (fun k => k = db) w ((w.setCell ⟨db, 1, none⟩ (.bool false)).setCell ⟨db, 2, none⟩ (.bool false)) := by
  have hF : Fr (fun k => k = db) w ((w.setCell ⟨db, 1, none⟩ (.bool false)).setCell ⟨db, 2, none⟩ (.bool false)) := ((Fr.refl (fun i => i = db) w).setCell (p := ⟨db, 1, none⟩) (fun _ => rfl) _).setCell (p := ⟨db, 2, none⟩) (fun _ => rfl) _
  have co : ∀ o, o ≠ 1 → o ≠ 2 → ((w.setCell ⟨db, 1, none⟩ (.bool false)).setCell ⟨db, 2, none⟩ (.bool false)).cell? ⟨db, o, none⟩ = w.cell? ⟨db, o, none⟩ := fun o h1 h2 => (World.cell?_setCell_other _ _ _ _ (by intro e9; injection e9 with _ e9 _; omega)).trans (World.cell?_setCell_other _ _ _ _ (by intro e9; injection e9 with _ e9 _; omega))
  have c1 : (w.setCell ⟨db, 1, none⟩ (.bool false)).cell? ⟨db, 1, none⟩ = some (.bool false) := cell_set_same w _ _ _ h.c1
  have c2 : (w.setCell ⟨db, 1, none⟩ (.bool false)).cell? ⟨db, 2, none⟩ = some (.bool fu) := (World.cell?_setCell_other _ _ _ _ (by intro e9; injection e9 with _ e9 _; omega)).trans h.c2
  refine ⟨⟨(co 0 (by omega) (by omega)).trans h.c0, (World.cell?_setCell_other _ _ _ _ (by intro e9; injection e9 with _ e9 _; omega)).trans c1, cell_set_same _ _ _ _ c2, (co 3 (by omega) (by omega)).trans h.c3, (co 4 (by omega) (by omega)).trans h.c4, (co 5 (by omega) (by omega)).trans h.c5, (co 6 (by omega) (by omega)).trans h.c6, fun o ho => (frozen_set _ _ _ _).trans ((frozen_set _ _ _ _).trans (h.fz o ho)), hF.owns h.o4 (fun g hg e => h.n4 (by rw [hg, e])), hF.owns h.o5 (fun g hg e => h.n5 (by rw [hg, e])), h.n4, h.n5, h.n45, h.ch.keep hF (fun c e9 h9 => ?_), h.bs, h.bc⟩, hF⟩
  rcases h.ch with ⟨e8, _⟩ | ⟨c8, cap8, s8, r8, e8, hc8, _⟩
  · rw [e8] at e9; cases e9
  · rw [e8] at e9; injection e9 with e9; injection e9 with e9; subst e9; exact not_chan h.c0 hc8 h9.symm
end

end Go.Proofs.YtlocadmiomglaaaGreatDoor

/- dev: a device as a whole; its calls, each with what becomes of it. -/
namespace Go.Proofs.YtlocadmiomglaaaGreatDoor
open Go.RowKit Go.Conc

/-- A device (F: its blocks). -/
def Dv (db base : Nat) (m : Int) (on fu : Bool) (lf : Int) (sy nw : List ByteArray) (ws : List Wr) (F : Nat → Prop) (w : World) : Prop :=
  ∃ v4 v5 cv, DevI db base m on fu lf sy nw ws v4 v5 cv w ∧ DevOK sy nw ws ∧ base ≤ w.heap.size ∧ F = devF db v4 v5 cv



section
variable {db base : Nat} {m lf : Int} {on fu : Bool} {sy nw : List ByteArray} {ws : List Wr} {F : Nat → Prop} {w w' : World}

theorem Dv.keep (h : Dv db base m on fu lf sy nw ws F w) {S : Nat → Prop} (hF : Fr S w w') (hS : ∀ k, F k → ¬ S k) : Dv db base m on fu lf sy nw ws F w' := by
  obtain ⟨v4, v5, cv, hI, hok, hb, rfl⟩ := h
  exact ⟨v4, v5, cv, hI.keep hF hS, hok, Nat.le_trans hb hF.size, rfl⟩
theorem Dv.lt (h : Dv db base m on fu lf sy nw ws F w) : ∀ k, F k → k < w.heap.size := by
  obtain ⟨v4, v5, cv, hI, hok, hb, rfl⟩ := h
  exact hI.lt
theorem Dv.ge (h : Dv db base m on fu lf sy nw ws F w) : ∀ k, F k → base ≤ k := by
  obtain ⟨v4, v5, cv, hI, hok, hb, rfl⟩ := h
  exact hI.ge
theorem Dv.here (h : Dv db base m on fu lf sy nw ws F w) : F db := by
  obtain ⟨v4, v5, cv, hI, hok, hb, rfl⟩ := h
  exact .inl rfl
theorem Dv.ok (h : Dv db base m on fu lf sy nw ws F w) : DevOK sy nw ws := by
  obtain ⟨v4, v5, cv, hI, hok, hb, rfl⟩ := h
  exact hok
theorem Dv.bsz (h : Dv db base m on fu lf sy nw ws F w) : base ≤ w.heap.size := by
  obtain ⟨v4, v5, cv, hI, hok, hb, rfl⟩ := h
  exact hb
/-- What is new lies apart. -/
theorem Dv.below (h : Dv db base m on fu lf sy nw ws F w) {w2 : World} {B : Nat} (hB : B ≤ base) (hb : Below B w2 w) (hF : Fr F w w') : Below B w2 w' :=
  hb.trans (hF.below (Nat.le_trans hB h.bsz) (fun k hk => Nat.le_trans hB (h.ge k hk)))

theorem dv_made (m : Int) (w : World) : Dv w.heap.size w.heap.size m true false 0 [] [] [] (fun k => k = w.heap.size) (w.alloc (.cells #[.int .i64 m, .bool true, .bool false, .int .i64 0, .slice none 0 0, .slice none 0 0, .chan none] 163)) := by
  have hb : (w.alloc (.cells #[.int .i64 m, .bool true, .bool false, .int .i64 0, .slice none 0 0, .slice none 0 0, .chan none] 163)).heap[w.heap.size]? = some (.cells #[.int .i64 m, .bool true, .bool false, .int .i64 0, .slice none 0 0, .slice none 0 0, .chan none] 163 (0, 0)) := heap_alloc_new w _
  have cc : ∀ k v, (#[Value.int .i64 m, .bool true, .bool false, .int .i64 0, .slice none 0 0, .slice none 0 0, .chan none])[k]? = some v → (w.alloc (.cells #[.int .i64 m, .bool true, .bool false, .int .i64 0, .slice none 0 0, .slice none 0 0, .chan none] 163)).cell? ⟨w.heap.size, k, none⟩ = some v := fun k v hv => by
    rw [cell_of_row _ _ _ _ _ _ hb]; exact hv
  refine ⟨.slice none 0 0, .slice none 0 0, .chan none, ⟨cc 0 _ rfl, cc 1 _ rfl, cc 2 _ rfl, cc 3 _ rfl, cc 4 _ rfl, cc 5 _ rfl, cc 6 _ rfl, fun k _ => ?_, World.ownsRow_nil _ _ _ _, World.ownsRow_nil _ _ _ _, (by intro e; cases e), (by intro e; cases e), fun g hg => (by cases hg), .inl ⟨rfl, rfl⟩, Nat.le_refl _, fun c hc => (by cases hc)⟩, ⟨rfl, by simp, by simp, by simp, by simp, by simp⟩, by simp, ?_⟩
  · unfold World.frozen?
    rw [hb]
    simp
  · funext k
    unfold devF
    simp [Value.ownBlock]

/-- Does the power fail at an operation? -/
def opFl (fu : Bool) (lf : Int) : Bool := fu && decide (lf ≤ 0)
def opLf (fu : Bool) (lf : Int) : Int := if fu && decide (0 < lf) then lf - 1 else lf

theorem dv_op (v4 v5 cv : Value) (h : DevI db base m true fu lf sy nw ws v4 v5 cv w) (hl : lf ≤ 1000000) :
    Calls Tryz.prog 118 #[.pointer (some ⟨db, 0, none⟩)] w fun e w' => e = .returned (.bool (opFl fu lf)) ∧ DevI db base m (!opFl fu lf) (fu && !opFl fu lf) (opLf fu lf) sy nw ws v4 v5 cv w' ∧ Fr (fun k => k = db) w w' := by
  cases fu with
  | false =>
    refine (dev_op_plain db w h.c2).mono ?_
    rintro e w' ⟨rfl, rfl⟩
    exact ⟨rfl, h, Fr.refl _ _⟩
  | true =>
    by_cases h0 : 0 < lf
    · refine (dev_op_left db lf w h.c2 h.c3 (h.fz 3 (by omega)) h0 hl).mono ?_
      have e1 : opFl true lf = false := by unfold opFl; simp; omega
      have e2 : opLf true lf = lf - 1 := by unfold opLf; simp [h0]
      rw [e1, e2]
      rintro e w' ⟨rfl, rfl⟩
      have hF : Fr (fun k => k = db) w (w.setCell ⟨db, 3, none⟩ (.int .i64 (lf - 1))) := (Fr.refl (fun i => i = db) w).setCell (p := ⟨db, 3, none⟩) (fun _ => rfl) _
      have co : ∀ o, o ≠ 3 → (w.setCell ⟨db, 3, none⟩ (.int .i64 (lf - 1))).cell? ⟨db, o, none⟩ = w.cell? ⟨db, o, none⟩ := fun o ho => World.cell?_setCell_other _ _ _ _ (by intro e9; injection e9 with _ e9 _; omega)
      refine ⟨rfl, ⟨(co 0 (by omega)).trans h.c0, (co 1 (by omega)).trans h.c1, (co 2 (by omega)).trans h.c2, cell_set_same w _ _ _ h.c3, (co 4 (by omega)).trans h.c4, (co 5 (by omega)).trans h.c5, (co 6 (by omega)).trans h.c6, fun o ho => (frozen_set _ _ _ _).trans (h.fz o ho), hF.owns h.o4 (fun g hg e => h.n4 (by rw [hg, e])), hF.owns h.o5 (fun g hg e => h.n5 (by rw [hg, e])), h.n4, h.n5, h.n45, h.ch.keep hF (fun c e9 h9 => ?_), h.bs, h.bc⟩, hF⟩
      rcases h.ch with ⟨e8, _⟩ | ⟨c8, cap8, s8, r8, e8, hc8, _⟩
      · rw [e8] at e9; cases e9
      · rw [e8] at e9; injection e9 with e9; injection e9 with e9; subst e9; exact not_chan h.c0 hc8 h9.symm
    · refine (dev_op_fails db lf true w h.c1 h.c2 h.c3 (h.fz 1 (by omega)) (h.fz 2 (by omega)) (by omega)).mono ?_
      have e1 : opFl true lf = true := by unfold opFl; simp; omega
      have e2 : opLf true lf = lf := by unfold opLf; simp [h0]
      rw [e1, e2]
      rintro e w' ⟨rfl, rfl⟩
      exact ⟨rfl, h.dark.1, h.dark.2⟩
end
end Go.Proofs.YtlocadmiomglaaaGreatDoor

/- dev: the calls of a device as a whole. -/
namespace Go.Proofs.YtlocadmiomglaaaGreatDoor
open Go.RowKit Go.Conc

theorem page0_size : page0.size = 256 := by kernel_rfl

theorem repeat_page (w : World) : Calls Tryz.prog 119 #[.string ⟨#[0]⟩, .int .i64 256] w fun e w' => e = .returned (.string page0) ∧ Below w.heap.size w w' :=
  Tryz.strings_Repeat ⟨#[0]⟩ 256 w (by omega) (by simp [ByteArray.size])

section
variable {db base : Nat} {m lf : Int} {on fu : Bool} {sy nw : List ByteArray} {ws : List Wr} {F : Nat → Prop} {w w' : World}

theorem dv_new (m : Int) (w : World) (h1 : 1 ≤ m) (h2 : m ≤ 3000) :
    Calls Tryz.prog 37 #[.int .i64 m] w fun e w' => e = .returned (.tuple #[.pointer (some ⟨w.heap.size, 0, none⟩), .int .i64 0]) ∧ Dv w.heap.size w.heap.size m true false 0 [] [] [] (fun k => k = w.heap.size) w' ∧ Below w.heap.size w w' :=
  (dev_new m w h1 h2).mono fun _ _ ⟨h1, h2⟩ => by subst h2; exact ⟨h1, dv_made m w, (Below.refl _ w).alloc (Nat.le_refl _) _⟩

theorem DevOK.grow (h : DevOK sy nw ws) (k : Nat) (hk : sy.length + k ≤ 3000) : DevOK (sy ++ List.replicate k page0) (nw ++ List.replicate k page0) ws := by
  refine ⟨by simp [h.len], by simp; omega, fun x hx => ?_, fun x hx => ?_, fun x hx => ?_, h.wl⟩
  · rcases List.mem_append.1 hx with hx | hx
    · exact h.s x hx
    · rw [(List.mem_replicate.1 hx).2]; exact page0_size
  · rcases List.mem_append.1 hx with hx | hx
    · exact h.n x hx
    · rw [(List.mem_replicate.1 hx).2]; exact page0_size
  · obtain ⟨h1, p, h2, h3⟩ := h.w x hx
    exact ⟨h1, p, h2, by simp; omega⟩

theorem dv_grow (n : Nat) (h : Dv db base m true false lf sy nw ws F w) (hn : nw.length ≤ n) (hm : (n : Int) ≤ m) (hm2 : m ≤ 3000) :
    Calls Tryz.prog 39 #[.pointer (some ⟨db, 0, none⟩), .int .i64 n] w fun e w' => e = .returned (.int .i64 0) ∧ ∃ F', Dv db base m true false lf (sy ++ List.replicate (n - nw.length) page0) (nw ++ List.replicate (n - nw.length) page0) ws F' w' ∧ Step F F' w w' := by
  obtain ⟨v4, v5, cv, hI, hok, hb, rfl⟩ := h
  refine (dev_grow page0 repeat_page db base n m lf sy nw ws v4 v5 cv w hI hb hn hok.len.symm hm hm2).mono ?_
  rintro e w' ⟨rfl, u4, u5, hI', hF, h4, h5⟩
  refine ⟨rfl, _, ⟨u4, u5, cv, hI', hok.grow _ (by have := hok.len; omega), Nat.le_trans hb hF.size, rfl⟩, hF, ?_⟩
  rintro k (hk | hk | hk | hk)
  · exact .inl (.inl hk)
  · exact (h4 k hk).imp (fun h => .inr (.inl h)) id
  · exact (h5 k hk).imp (fun h => .inr (.inr (.inl h))) id
  · exact .inl (.inr (.inr (.inr hk)))

set_option maxRecDepth 100000 in
theorem dv_grow_bad (n : Int) (h : Dv db base m true false lf sy nw ws F w) (hn : n < (nw.length : Int) ∨ m < n) :
    Calls Tryz.prog 39 #[.pointer (some ⟨db, 0, none⟩), .int .i64 n] w fun e w' => e = .returned (.int .i64 (if n < (nw.length : Int) then 1 else 10)) ∧ w' = w := by
  obtain ⟨v4, v5, cv, hI, hok, hb, rfl⟩ := h
  have hc0 := hI.c0
  have HOFF := Lib.hid (dev_off db true w hI.c1)
  have HOP := Lib.hid (dev_op_plain db w hI.c2)
  obtain ⟨p5, d5, rfl⟩ := owns_slice hI.o5
  have hc5 := hI.c5
  clear hI hok
  by_cases h1 : n < (nw.length : Int)
  · clear hn
    rw [if_pos h1]
    go_enter Tryz.func39, Tryz.ntmps39
    go_wp2_with fail
    refine HOFF.out.mono ?_
    rintro e w1 ⟨rfl, rfl⟩
    go_wp2_with fail
    refine HOP.out.mono ?_
    rintro e w1 ⟨rfl, rfl⟩
    go_wp2
    go_ret
    exact ⟨rfl, rfl⟩
  · have h2 : m < n := hn.resolve_left h1
    clear hn
    rw [if_neg h1]
    go_enter Tryz.func39, Tryz.ntmps39
    go_wp2_with fail
    refine HOFF.out.mono ?_
    rintro e w1 ⟨rfl, rfl⟩
    go_wp2_with fail
    refine HOP.out.mono ?_
    rintro e w1 ⟨rfl, rfl⟩
    go_wp2
    go_ret
    exact ⟨rfl, rfl⟩



theorem DevOK.crash (h : DevOK sy nw ws) (ks : List Int) : DevOK (crashL sy ws ks ws.length) (crashL sy ws ks ws.length) [] :=
  ⟨rfl, by rw [crashL_length]; exact h.few, crashL_size ks h _ (Nat.le_refl _), crashL_size ks h _ (Nat.le_refl _), by simp, by simp⟩




theorem dv_read (k : Nat) (h : Dv db base m true fu lf sy nw ws F w) (hk : k < nw.length) :
    Calls Tryz.prog 162 #[.pointer (some ⟨db, 0, none⟩), .int .i64 k] w fun e w' => e = .returned (.tuple #[.string (nw.getD k default), .int .i64 0]) ∧ w' = w := by
  obtain ⟨v4, v5, cv, h, hok, hb, rfl⟩ := h
  obtain ⟨g, cap, hv, hg1, hg2, hg3⟩ := owns_len h.o5 (by omega)
  subst hv
  refine dev_read db g 0 nw.length cap k _ w h.c1 h.c5 hk ?_
  have e := h.o5.cells (g := g) rfl k (.string (nw.getD k default)) (by
    have r0 := rowOf_at scells scells_length nw k 0 hk (by omega)
    rw [Nat.mul_one, Nat.add_zero] at r0
    exact r0)
  rw [add_at0] at e
  rw [Nat.zero_add]
  exact e

theorem dv_read_out (k : Int) (h : Dv db base m true fu lf sy nw ws F w) (hk : k < 0 ∨ (nw.length : Int) ≤ k) :
    Calls Tryz.prog 162 #[.pointer (some ⟨db, 0, none⟩), .int .i64 k] w fun e w' => e = .returned (.tuple #[.string ByteArray.empty, .int .i64 3]) ∧ w' = w := by
  obtain ⟨v4, v5, cv, h, hok, hb, rfl⟩ := h
  obtain ⟨p, cap, rfl⟩ := owns_slice h.o5
  exact dev_read_out db p nw.length cap k w h.c1 h.c5 hk

theorem dv_len (h : Dv db base m on fu lf sy nw ws F w) :
    Calls Tryz.prog 43 #[.pointer (some ⟨db, 0, none⟩)] w fun e w' => e = .returned (.int .i64 nw.length) ∧ w' = w := by
  obtain ⟨v4, v5, cv, h, hok, hb, rfl⟩ := h
  obtain ⟨p, cap, rfl⟩ := owns_slice h.o5
  exact dev_len db p nw.length cap w h.c5



end

/-- What Write leaves. -/
def DvWrote (db base : Nat) (m : Int) (fu fl : Bool) (ll : Int) (sy nw : List ByteArray) (ws : List Wr) (F : Nat → Prop) (k : Nat) (s : ByteArray) (w : World) (e : Ending) (w' : World) : Prop :=
  e = .returned (.int .i64 (if fl then 14 else 0)) ∧ ∃ F', Dv db base m (!fl) (fu && !fl) ll sy (nw.set k s) (ws ++ [((k : Int), s)]) F' w' ∧ Step F F' w w'

end Go.Proofs.YtlocadmiomglaaaGreatDoor

