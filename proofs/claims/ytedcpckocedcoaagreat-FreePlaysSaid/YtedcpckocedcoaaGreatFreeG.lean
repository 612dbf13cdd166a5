/- free's Free: New, Back, Give. -/
import Derived.Test.YtedcpckocedcoaaGreatFree
import Derived.Deep.AppendLies
namespace Go.Proofs.YtedcpckocedcoaaGreat
open Go.RowKit

section
variable {fb base : Nat} {v vw vp : Value} {l : List Int} {ws : List (Int × Int)} {np : Nat} {D : DU} {F : Nat → Prop} {w w' : World}

theorem FrI.waited (h : FrI fb base v vw vp l ws np D w) {X : Obj} {w1 : World} {g cap : Nat} {x : Int × Int} (hown : w1.ownsRow base 81 2 (.slice (some ⟨g, 0, none⟩) (ws.length + 1) cap) (ws.length + 1) (rowOf wtcells ws ++ wtcells x)) (hgr : (w.alloc X).grownBy w1 vw.ownBlock) (hat : vw.ownBlock = some g ∨ g = w.heap.size + 1) (hn : ws.length < 1000000) :
    FrI fb base v (.slice (some ⟨g, 0, none⟩) (ws.length + 1) cap) vp l (ws ++ [x]) np D (w1.setCell ⟨fb, 1, none⟩ (.slice (some ⟨g, 0, none⟩) (ws.length + 1) cap)) ∧ Step (freeF fb v vw vp) (freeF fb v (.slice (some ⟨g, 0, none⟩) (ws.length + 1) cap) vp) w (w1.setCell ⟨fb, 1, none⟩ (.slice (some ⟨g, 0, none⟩) (ws.length + 1) cap)) := by
  have hlt : fb < w.heap.size := cell_lt h.c1
  have hblk : w1.heap[fb]? = w.heap[fb]? := (hgr.block fb (by simp; omega) (fun e => h.n1 e.symm)).trans (Below.heap_alloc w X fb hlt)
  have hfr : Fr (fun k => k = fb ∨ vw.ownBlock = some k) w w1 := Fr.trans ((Fr.refl (fun k => k = fb ∨ vw.ownBlock = some k) w).alloc X) (Fr.of_grown (S := fun k => vw.ownBlock = some k) hgr (fun i _ e => e)) (fun i hi _ => .inr hi)
  obtain ⟨k1, k2, k3, k4, k5, k6, k7⟩ := push_end hlt h.n1 ⟨hblk, hfr⟩ hown hat (by omega) ((World.cell?_of_block (a := ⟨fb, 1, none⟩) hblk).trans h.c1) ((World.frozen?_of_block (a := ⟨fb, 1, none⟩) hblk).trans h.f1)
  have hlen : (ws ++ [x]).length = ws.length + 1 := by simp
  refine ⟨⟨⟨⟨(k7 0 (by omega)).1.trans h.pile.1.1, (k7 0 (by omega)).2.trans h.pile.1.2.1, k4.owns h.pile.1.2.2.1 (fun g' hg' => ?_), h.pile.1.2.2.2.1, h.pile.1.2.2.2.2.1, Nat.le_trans h.pile.1.2.2.2.2.2 k4.size⟩, h.pile.2⟩, k1, k2, ?_, fun e => k6 (by simpa [Value.ownBlock] using e), (k7 2 (by omega)).1.trans h.c2, (k7 2 (by omega)).2.trans h.f2, h.pins.keep k4 (fun k hk => ?_), by omega, h.fbb⟩, k4.mono (fun i _ hi => hi.imp id (fun e => .inr (.inl e))), fun k hk => ?_⟩
  · rintro (e | e)
    · exact h.pile.1.2.2.2.1 (by rw [hg', e])
    · exact h.apart1 hg' e
  · rw [hlen, rowOf_append, rowOf_one]
    exact k3
  · rintro (e | e)
    · exact h.apart2 (.inl e) hk
    · exact h.apart2 (.inr (.inr e)) hk
  · rcases hk with hk | hk | hk | hk
    · exact .inl (.inl hk)
    · exact .inl (.inr (.inl hk))
    · have : g = k := by simpa [Value.ownBlock] using hk
      subst this
      exact k5.imp (fun e => .inr (.inr (.inl e))) id
    · exact .inl (.inr (.inr (.inr hk)))

set_option maxRecDepth 100000 in
theorem fe_back (p : Option Addr) (n c : Nat) (zs : List Int) (h : Fe fb base l ws np D F w) (hz : RdI w w.heap.size p n zs) (hS : ∀ b o, p = some ⟨b, o, none⟩ → 0 < n → ¬ F b) (hn : l.length + n < 1000000) :
    Calls Tryz.prog 14 #[.pointer (some ⟨fb, 0, none⟩), .slice p n c] w fun e w' => e = .returned (.tuple #[]) ∧ ∃ l' F', Fe fb base l' ws np D F' w' ∧ l'.Perm (l ++ zs) ∧ Step F F' w w' := by
  obtain ⟨v, vw, vp, h, rfl⟩ := h
  have HLX := Lib.hid (pile_put_o fb base v l zs p n c w h.pile hz (fun b o e h0 hb => hS b o e h0 (hb.imp id .inl)) hn)
  have HH := Lib.hid h
  clear h hz hS hn
  go_enter Tryz.func14, Tryz.ntmps14
  go_wp2_with fail
  refine HLX.out.mono ?_
  rintro e w1 ⟨rfl, v', l', hI, hp, hF, hv, hO⟩
  have HFE : Hid (∃ l' F', Fe fb base l' ws np D F' w1 ∧ l'.Perm (l ++ zs) ∧ Step (freeF fb v vw vp) F' w w1) := Lib.hid ⟨l', _, ⟨v', vw, vp, HH.out.piled hI hF hO, rfl⟩, hp, hF.mono (fun i _ hi => hi.imp id .inl), fun k hk => by
    rcases hk with hk | hk | hk | hk
    · exact .inl (.inl hk)
    · exact (hv k hk).imp (fun e => .inr (.inl e)) id
    · exact .inl (.inr (.inr (.inl hk)))
    · exact .inl (.inr (.inr (.inr hk)))⟩
  clear hI hp hF hv hO
  go_wp2
  go_end0
  exact ⟨rfl, HFE.out⟩

theorem fe_fresh (w : World) : Fe w.heap.size w.heap.size [] [] 0 (.map []) (fun k => k = w.heap.size) (w.alloc (.cells #[.slice none 0 0, .slice none 0 0, .map none] 39)) := by
  have hb := heap_alloc_new w (.cells #[.slice none 0 0, .slice none 0 0, .map none] 39)
  have cc : ∀ k u, (#[Value.slice none 0 0, .slice none 0 0, .map none])[k]? = some u → (w.alloc (.cells #[.slice none 0 0, .slice none 0 0, .map none] 39)).cell? ⟨w.heap.size, k, none⟩ = some u := fun k u hu => by
    rw [cell_of_row _ _ _ _ _ _ hb]; exact hu
  have ff : ∀ k, (w.alloc (.cells #[.slice none 0 0, .slice none 0 0, .map none] 39)).frozen? ⟨w.heap.size, k, none⟩ = false := fun k => by
    unfold World.frozen?
    rw [hb]
    simp
  refine ⟨.slice none 0 0, .slice none 0 0, .map none, ⟨⟨⟨cc 0 _ rfl, ff 0, World.ownsRow_nil _ _ _ _, (by intro e; cases e), by simp, by simp⟩, HL.isHeap_nil⟩, cc 1 _ rfl, ff 1, World.ownsRow_nil _ _ _ _, (by intro e; cases e), cc 2 _ rfl, ff 2, .inl ⟨rfl, rfl⟩, by simp, Nat.le_refl _⟩, ?_⟩
  funext k
  unfold freeF
  simp [Value.ownBlock]

set_option maxRecDepth 100000 in
theorem fe_new (p : Option Addr) (n c : Nat) (zs : List Int) (w : World) (hz : RdI w w.heap.size p n zs) (hn : n < 1000000) :
    Calls Tryz.prog 7 #[.slice p n c] w fun e w' => e = .returned (.pointer (some ⟨w.heap.size, 0, none⟩)) ∧ ∃ l F, Fe w.heap.size w.heap.size l [] 0 (.map []) F w' ∧ l.Perm zs ∧ Below w.heap.size w w' := by
  have hb : Below w.heap.size w (w.alloc (.cells #[.slice none 0 0, .slice none 0 0, .map none] 39)) := (Below.refl _ w).alloc (Nat.le_refl _) _
  have HB := Lib.hid hb
  have HBK := Lib.hid (fe_back p n c zs (fe_fresh w) ((hz.below hb).more (by simp)) (fun b o e h0 hF => by
    obtain ⟨b', o', e', hlt, _⟩ := hz.2 h0
    rw [e] at e'
    injection e' with e'
    injection e' with e' _ _
    have : b = w.heap.size := hF
    omega) (by simpa using hn))
  clear hb hz hn
  go_enter Tryz.func7, Tryz.ntmps7
  go_wp2_with fail
  refine HBK.out.mono ?_
  rintro e w1 ⟨rfl, l', F', hI, hp, hS⟩
  have HX : Hid (∃ l F, Fe w.heap.size w.heap.size l [] 0 (.map []) F w1 ∧ l.Perm zs ∧ Below w.heap.size w w1) := Lib.hid ⟨l', F', hI, by simpa using hp, HB.out.trans (hS.1.below (by simp) (fun i hi => by have : i = w.heap.size := hi; omega))⟩
  clear hI hp hS
  go_wp2
  go_ret
  exact ⟨rfl, HX.out⟩

theorem info_wait : (Tryz.prog.info? 81).map (fun i => (i.zero, i.size, i.bytes)) = some (some (.agg #[.int .i64 0, .int .i64 0]), 2, 16) := by kernel_rfl

set_option maxHeartbeats 1000000 in
set_option maxRecDepth 100000 in
theorem fe_give (t : Int) (p : Option Addr) (n c : Nat) (zs : List Int) (h : Fe fb base l ws np D F w) (hz : RdI w w.heap.size p n zs) (hS : ∀ b o, p = some ⟨b, o, none⟩ → 0 < n → ¬ F b) (hn : ws.length + n < 1000000) :
    Calls Tryz.prog 12 #[.pointer (some ⟨fb, 0, none⟩), .int .i64 t, .slice p n c] w fun e w' => e = .returned (.tuple #[]) ∧ ∃ F', Fe fb base l (ws ++ zs.map (fun x => (t, x))) np D F' w' ∧ Step F F' w w' := by
  obtain ⟨i0, hi0, hz0, hz1, hz2⟩ := info_parts info_wait
  have HZ := Lib.hid hz
  have HS := Lib.hid hS
  have HST : Hid (Fe fb base l (ws ++ (zs.take 0).map (fun x => (t, x))) np D F w) := Lib.hid (by simpa using h)
  clear h hz hS
  go_enter Tryz.func12, Tryz.ntmps12
  go_wp2
  go_loopw [7, 12] (fun _ iv wr => ∃ (k : Nat) (F' : Nat → Prop), k ≤ n ∧ iv = .int .i64 k ∧ Hid (Fe fb base l (ws ++ (zs.take k).map (fun x => (t, x))) np D F' wr) ∧ Hid (Step F F' w wr)) (fun _ iv _ => n - (intOf iv).toNat)
  case atStart => exact ⟨0, F, Nat.zero_le _, rfl, HST, Lib.hid (Step.refl _ _)⟩
  case round =>
    clear HST
    obtain ⟨k, F', hk, rfl, hI, hst⟩ := hrel
    by_cases hlt : k < n
    · obtain ⟨b, o, e, hb, hc⟩ := HZ.out.2 (by omega)
      have hcell := (hst.out.1.cell (p := ⟨b, o + k, none⟩) hb (HS.out b o e (by omega))).trans (hc k hlt)
      have hlk : (zs.take k).length = k := by rw [List.length_take, HZ.out.1]; omega
      have htk : zs.take (k + 1) = zs.take k ++ [HL.el zs k] := by
        rw [List.take_succ_eq_append_getElem (by rw [HZ.out.1]; exact hlt)]
        have e9 := HL.el_eq zs k (by rw [HZ.out.1]; exact hlt)
        rw [List.getElem?_eq_getElem (by rw [HZ.out.1]; exact hlt)] at e9
        injection e9 with e9
        rw [e9]
      have HTK : Hid (ws ++ (zs.take (k + 1)).map (fun x => (t, x)) = (ws ++ (zs.take k).map (fun x => (t, x))) ++ [(t, HL.el zs k)]) := Lib.hid (by rw [htk]; simp)
      have hwl : (ws ++ (zs.take k).map (fun x => (t, x))).length < 1000000 := by rw [List.length_append, List.length_map, hlk]; omega
      clear hc hlk htk
      subst e
      obtain ⟨v, vw, vp, h, rfl⟩ := hI.out
      obtain ⟨q, d, rfl⟩ := owns_slice h.row
      have hc1 := h.c1
      have hf1 := h.f1
      have hfl : fb < wr.heap.size := cell_lt h.c1
      have hbs := h.pile.1.2.2.2.2.2
      have HH := Lib.hid h
      clear h hI
      generalize hwsk : ws ++ (zs.take k).map (fun x => (t, x)) = wsk at *
      have HWK := Lib.hid hwsk
      clear hwsk
      generalize HL.el zs k = x at *
      go_wp2_with (at_builtin; refine wpList_append_lies _ rfl _ _ 36 rfl base 81 i0 _ 2 16 Tryz.underlying36 hi0 hz0 hz1 hz2 rfl (by omega) (.slice q wsk.length d) wsk.length (rowOf wtcells wsk) rfl ?own ⟨wr.heap.size, 0, none⟩ 1 1 [.int .i64 t, .int .i64 x] rfl rfl ?cells ?one (by omega) ?len ?bytes ?base (wr.heap.size + 1) (by simp) ?_; (case own => exact HH.out.row.alloc _); (case cells => exact new_cells wr _ _); (case one => simp [Value.oneCell']); (case len => unfold maxLen; omega); (case bytes => omega); (case base => simp; omega); intro g cap w3 hown hgr hat hg
                   have hd3 : w3.heap[fb]? = wr.heap[fb]? := (hgr.block fb (by simp; omega) (fun e => HH.out.n1 e.symm)).trans (Below.heap_alloc wr _ fb hfl)
                   have hc3 := (World.cell?_of_block (a := ⟨fb, 1, none⟩) hd3).trans hc1
                   have hf3 := (World.frozen?_of_block (a := ⟨fb, 1, none⟩) hd3).trans hf1
                   have HA := Lib.hid (HH.out.waited (x := (t, x)) hown hgr hat hwl)
                   clear hown hgr hat hd3)
      go_roundw
      case rel => exact ⟨k + 1, _, by omega, by go_num, Lib.hid ⟨v, _, vp, by rw [HTK.out]; exact HA.out.1, rfl⟩, Lib.hid (hst.out.trans HA.out.2)⟩
      case measure => simp [intOf]; omega
    · obtain rfl : k = n := by omega
      go_wp2
      go_end0
      have htl : zs.take k = zs := List.take_of_length_le (by rw [HZ.out.1]; omega)
      refine ⟨rfl, F', ?_, hst.out⟩
      have := hI.out
      rw [htl] at this
      exact this
end
end Go.Proofs.YtedcpckocedcoaaGreat
