/- dev: the contract of Grow, of a device that has power and no fuse. -/
import Derived.Test.YtpoiopjggmhnjaaDoorDevI
import Derived.Test.YtpoiopjggmhnjaaDoorShelf
namespace Go.Proofs.YtpoiopjggmhnjaaDoor
open Go.RowKit Go.Conc

def page0 : ByteArray := ⟨(Lib.repeatL [0] 256).toArray⟩

/-- Between two rounds of Grow: k pages have been made. -/
def GrowRel (pg : ByteArray) (db base : Nat) (m : Int) (lf : Int) (sy nw : List ByteArray) (ws : List Wr) (v4 v5 cv : Value) (w : World) (k : Nat) (wr : World) : Prop :=
  ∃ u4 u5, DevI db base m true false lf (sy ++ List.replicate k pg) (nw ++ List.replicate k pg) ws u4 u5 cv wr ∧ Fr (devF db v4 v5 cv) w wr ∧
    (∀ g, u4.ownBlock = some g → Lies v4 g w.heap.size) ∧ (∀ g, u5.ownBlock = some g → Lies v5 g w.heap.size)

/-- How many pages there are. -/
def lenAt (db : Nat) (w : World) : Nat := match w.cell? ⟨db, 5, none⟩ with | some (.slice _ n _) => n | _ => 0
theorem lenAt_of {db n c : Nat} {p : Option Addr} {w : World} (h : w.cell? ⟨db, 5, none⟩ = some (.slice p n c)) : lenAt db w = n := by unfold lenAt; rw [h]

set_option maxHeartbeats 2000000 in
set_option maxRecDepth 100000 in
theorem dev_grow (pg : ByteArray) (hrp : ∀ w, Calls Tryd.prog 36 #[.string ⟨#[0]⟩, .int .i64 256] w fun e w' => e = .returned (.string pg) ∧ Below w.heap.size w w') (db base n : Nat) (m lf : Int) (sy nw : List ByteArray) (ws : List Wr) (v4 v5 cv : Value) (w : World) (h : DevI db base m true false lf sy nw ws v4 v5 cv w) (hb : base ≤ w.heap.size) (hn : nw.length ≤ n) (hs : sy.length = nw.length) (hm : (n : Int) ≤ m) (hm2 : m ≤ 3000) :
    Calls Tryd.prog 15 #[.pointer (some ⟨db, 0, none⟩), .int .i64 n] w fun e w' => e = .returned (.int .i64 0) ∧ GrowRel pg db base m lf sy nw ws v4 v5 cv w (n - nw.length) w' := by
  obtain ⟨i0, hi0, hz0, hz1, hz2⟩ := info_parts info_string
  have HH := Lib.hid h
  have hc0 := h.c0
  have HOFF := Lib.hid (dev_off db true w h.c1)
  have HOP := Lib.hid (dev_op_plain db w h.c2)
  obtain ⟨p5, d5, rfl⟩ := owns_slice h.o5
  have hc5 := h.c5
  have HSY := Lib.hid hs
  clear h hs
  have HRP := Lib.hid hrp
  clear hrp
  have h1 : ¬ ((n : Int) < (nw.length : Int)) := by omega
  have h2 : ¬ (m < (n : Int)) := by omega
  go_enter Tryd.func15, Tryd.ntmps15
  go_wp2_with fail
  refine HOFF.out.mono ?_
  rintro e w1 ⟨rfl, rfl⟩
  go_wp2_with fail
  refine HOP.out.mono ?_
  rintro e w1 ⟨rfl, rfl⟩
  go_wp2_with fail
  refine (HRP.out _).mono ?_
  rintro e w2 ⟨rfl, hb2⟩
  have HST : Hid (GrowRel pg db base m lf sy nw ws v4 (.slice p5 nw.length d5) cv w1 0 w2) := ⟨v4, _, by simpa using HH.out.keep (Fr.of_all (S := fun _ => False) hb2) (fun _ _ h => h), Fr.of_all hb2, fun g hg => .inl hg, fun g hg => .inl hg⟩
  clear hb2 HOFF HOP HRP
  go_wp2
  go_loopw [29] (fun _ wr => ∃ k, nw.length + k ≤ n ∧ GrowRel pg db base m lf sy nw ws v4 (.slice p5 nw.length d5) cv w1 k wr) (fun _ wr => n - lenAt db wr)
  case atStart => exact ⟨0, by omega, HST.out⟩
  case round =>
    clear HST
    obtain ⟨k, hk, u4, u5, hI, hF, hL4, hL5⟩ := hrel
    obtain ⟨q5, e5, rfl⟩ := owns_slice hI.o5
    obtain ⟨q4, e4, rfl⟩ := owns_slice hI.o4
    have hlen5 : (nw ++ List.replicate k pg).length = nw.length + k := by simp
    have hlen4 : (sy ++ List.replicate k pg).length = nw.length + k := by simp [HSY.out]
    rw [hlen5] at hI hL5
    rw [hlen4] at hI hL4
    have hc5r := hI.c5
    have hc4r := hI.c4
    have hf5 := hI.fz 5 (by omega)
    have hf4 := hI.fz 4 (by omega)
    have hdl : db < wr.heap.size := cell_lt hI.c0
    have hbr : base ≤ wr.heap.size := Nat.le_trans hb hF.size
    have HI := Lib.hid hI
    have HF := Lib.hid hF
    have HL4 := Lib.hid hL4
    have HL5 := Lib.hid hL5
    have HLS := Lib.hid hlen4
    have HLN := Lib.hid hlen5
    clear hI hF hL4 hL5 hlen5 hlen4
    by_cases hlt : nw.length + k < n
    · go_wp2_with (first
        | (at_builtin; refine wpList_append_lies _ rfl _ _ 61 rfl base 9 i0 _ 1 16 Tryd.underlying61 hi0 hz0 hz1 hz2 rfl (by omega) (.slice q5 (nw.length + k) e5) (nw.length + k) (rowOf scells (nw ++ List.replicate k pg)) rfl ?own ⟨wr.heap.size, 0, none⟩ 1 1 [.string pg] rfl rfl ?cells ?one (by omega) ?len ?bytes ?base (wr.heap.size + 1) (by simp) ?_; (case own => exact ((by simpa using HI.out.o5 : wr.ownsRow base 9 1 (.slice q5 (nw.length + k) e5) (nw.length + k) (rowOf scells (nw ++ List.replicate k pg)))).alloc _); (case cells => exact new_cells wr _ _); (case one => simp [Value.oneCell']); (case len => unfold maxLen; omega); (case bytes => omega); (case base => simp; omega); intro g cap w3 hown hgr hat hg
           have hA := HI.out.app5 (e := pg) (by simpa using hown) hgr hat
           rw [HLN.out] at hA
           have hd3 : w3.heap[db]? = wr.heap[db]? := (hgr.block db (by simp; omega) (fun e => HI.out.n5 e.symm)).trans (Below.heap_alloc wr _ db hdl)
           have hc3 := (World.cell?_of_block (a := ⟨db, 5, none⟩) hd3).trans hc5r
           have hf3 := (World.frozen?_of_block (a := ⟨db, 5, none⟩) hd3).trans hf5
           have HA := Lib.hid hA
           have HAT := Lib.hid hat
           have hc34 := (World.cell?_of_block (a := ⟨db, 4, none⟩) hd3).trans hc4r
           have hf34 := (World.frozen?_of_block (a := ⟨db, 4, none⟩) hd3).trans hf4
           have hs3 : wr.heap.size + 1 ≤ w3.heap.size := by have := hgr.size; simpa using this
           clear hown hgr hA hd3 hat)
        | (at_builtin; refine wpList_append_lies _ rfl _ _ 61 rfl base 9 i0 _ 1 16 Tryd.underlying61 hi0 hz0 hz1 hz2 rfl (by omega) (.slice q4 (nw.length + k) e4) (nw.length + k) (rowOf scells (sy ++ List.replicate k pg)) rfl ?own ⟨w3.heap.size, 0, none⟩ 1 1 [.string pg] rfl rfl ?cells ?one (by omega) ?len ?bytes ?base (w3.heap.size + 1) ?siz ?_; go_must (case own => exact ((by have e := HA.out.1.o4; rw [HLS.out] at e; exact e : World.ownsRow _ base 9 1 (.slice q4 (nw.length + k) e4) (nw.length + k) (rowOf scells (sy ++ List.replicate k pg)))).alloc _); go_must (case cells => intro j u hu; have e := new_cells (w3.setCell ⟨db, 5, none⟩ (.slice (some ⟨g, 0, none⟩) (nw.length + k + 1) cap)) [.string pg] 9 j u hu; rw [show (w3.setCell ⟨db, 5, none⟩ (.slice (some ⟨g, 0, none⟩) (nw.length + k + 1) cap)).heap.size = w3.heap.size by simp [World.setCell]] at e; exact e); (case one => simp [Value.oneCell']); (case len => unfold maxLen; omega); (case bytes => omega); go_must (case base => simp; omega); go_must (case siz => simp); intro g2 cap2 w5 hown2 hgr2 hat2 hg2
           have HOW2 := Lib.hid hown2
           have HGR2 := Lib.hid hgr2
           have HAT2 := Lib.hid hat2
           have hd5 : w5.heap[db]? = (w3.setCell ⟨db, 5, none⟩ (.slice (some ⟨g, 0, none⟩) (nw.length + k + 1) cap)).heap[db]? := (hgr2.block db (by simp; omega) (fun e => HI.out.n4 e.symm)).trans (Below.heap_alloc _ _ db (by simp [World.setCell]; omega))
           have hc54 := (World.cell?_of_block (a := ⟨db, 4, none⟩) hd5)
           have hf54 := (World.frozen?_of_block (a := ⟨db, 4, none⟩) hd5)
           rw [World.cell?_setCell_other _ _ _ _ (by intro e9; injection e9 with _ e9 _; omega), hc34] at hc54
           rw [frozen_set, hf34] at hf54
           clear hown2 hgr2 hat2 hd5)
        | fail)
      have hs1 : (w3.setCell ⟨db, 5, none⟩ (.slice (some ⟨g, 0, none⟩) (nw.length + k + 1) cap)).heap.size = w3.heap.size := by simp [World.setCell]
      have hB := HA.out.1.app4 (e := pg) (by rw [HLS.out]; exact HOW2.out) HGR2.out (by rw [hs1]; exact HAT2.out)
      rw [HLS.out] at hB
      have hsw := HF.out.size
      have erep : List.replicate k pg ++ [pg] = List.replicate (k + 1) pg := by rw [List.replicate_succ']
      have sub4 : ∀ i, i < w1.heap.size → (Value.slice q4 (nw.length + k) e4).ownBlock = some i → v4.ownBlock = some i := fun i hi h9 => (HL4.out i h9).resolve_right (by omega)
      have sub5 : ∀ i, i < w1.heap.size → (Value.slice q5 (nw.length + k) e5).ownBlock = some i → (Value.slice p5 nw.length d5).ownBlock = some i := fun i hi h9 => (HL5.out i h9).resolve_right (by omega)
      have l5 : ∀ g9, (Value.slice (some ⟨g, 0, none⟩) (nw.length + k + 1) cap).ownBlock = some g9 → Lies (.slice p5 nw.length d5) g9 w1.heap.size := fun g9 h9 => by
        have h9 : g = g9 := by simpa [Value.ownBlock] using h9
        subst h9
        rcases HAT.out with e9 | e9
        · exact HL5.out g e9
        · exact .inr (by omega)
      refine ⟨⟨k + 1, by omega, .slice (some ⟨g2, 0, none⟩) (nw.length + k + 1) cap2, .slice (some ⟨g, 0, none⟩) (nw.length + k + 1) cap, ?_, ?_, ?_, l5⟩, ?_⟩
      · have h9 := hB.1
        rw [List.append_assoc, List.append_assoc, erep] at h9
        exact h9
      · refine Fr.trans (Fr.trans HF.out HA.out.2 (fun i hi hlt9 => ?_)) hB.2 (fun i hi hlt9 => ?_)
        · rcases hi with hi | hi | hi | hi
          · exact .inl hi
          · exact .inr (.inl (sub4 i hlt9 hi))
          · exact .inr (.inr (.inl (sub5 i hlt9 hi)))
          · exact .inr (.inr (.inr hi))
        · rcases hi with hi | hi | hi | hi
          · exact .inl hi
          · exact .inr (.inl (sub4 i hlt9 hi))
          · exact .inr (.inr (.inl ((l5 i hi).resolve_right (by omega))))
          · exact .inr (.inr (.inr hi))
      · intro g9 h9
        have h9 : g2 = g9 := by simpa [Value.ownBlock] using h9
        subst h9
        rcases HAT2.out with e9 | e9
        · exact HL4.out g2 e9
        · exact .inr (by omega)
      · rw [lenAt_of hB.1.c5, lenAt_of hc5r]
        omega
    · go_wp2
      go_ret
      refine ⟨rfl, _, _, ?_, HF.out, HL4.out, HL5.out⟩
      have e : n - nw.length = k := by omega
      rw [e]
      exact HI.out
end Go.Proofs.YtpoiopjggmhnjaaDoor
