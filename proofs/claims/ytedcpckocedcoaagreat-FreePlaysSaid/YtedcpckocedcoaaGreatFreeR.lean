/- free's Free: Release. -/
import Derived.Test.YtedcpckocedcoaaGreatFreeD
namespace Go.Proofs.YtedcpckocedcoaaGreat
open Go.RowKit

section
variable {Bp Bb Bf fb base : Nat} {pinned : Bool} {border : Int} {v0 : Value} {l0 : List Int} {w0 wr : World}

set_option maxRecDepth 100000 in
theorem del_nil (hE : RelE Bp Bb Bf fb pinned border w0) (h1 : ¬ pileF fb v0 Bp) (h2 : ¬ pileF fb v0 Bb) (h3 : ¬ pileF fb v0 Bf) (hI : PileI fb base v0 l0 w0) (hn : l0.length < 900000) :
    Calls Tryz.prog 46 #[.slice none 0 0, clV Bp Bb Bf] w0 fun e w' => e = .returned (.slice none 0 0) ∧ PutS fb base v0 l0 (fun _ => False) w0 [] w' := by
  have HIX := Lib.hid (idx_rel 0 0 none [] (fun h => absurd h (Nat.lt_irrefl 0)) (fun k hk => absurd hk (Nat.not_lt_zero k)) hE h1 h2 h3 hI (by simpa using hn))
  clear hE h1 h2 h3 hI hn
  generalize clV Bp Bb Bf = cl at *
  go_enter Tryz.func46, Tryz.ntmps46
  go_wp2_with fail
  refine HIX.out.mono ?_
  rintro e w1 ⟨r, rfl, hr⟩
  rcases hr with ⟨rfl, hno, hS⟩ | ⟨k, hk, rfl, hno, hyes, hS⟩
  · have HS := Lib.hid hS
    clear hS hno
    go_wp2
    go_ret
    exact ⟨rfl, HS.out⟩
  · exact absurd hk (Nat.not_lt_zero k)

/-- What the deleting leaves. -/
def DelA (fb base : Nat) (v0 vw : Value) (l0 : List Int) (w0 : World) (go : Int × Int → Bool) (ws : List (Int × Int)) (u : Value) (w' : World) : Prop :=
  w'.ownsRow base 81 2 u (ws.filter (fun x => !go x)).length (rowOf wtcells (ws.filter (fun x => !go x))) ∧ (∀ k, u.ownBlock = some k → vw.ownBlock = some k) ∧ PutS fb base v0 l0 (fun k => vw.ownBlock = some k) w0 (pagesOf (ws.filter go)) w'

theorem del_any {vw : Value} {ws : List (Int × Int)} (ho : w0.ownsRow base 81 2 vw ws.length (rowOf wtcells ws)) (hgp : ∀ g, vw.ownBlock = some g → ¬ pileF fb v0 g)
    (hE : RelE Bp Bb Bf fb pinned border w0) (h1 : ¬ (pileF fb v0 Bp ∨ vw.ownBlock = some Bp)) (h2 : ¬ (pileF fb v0 Bb ∨ vw.ownBlock = some Bb)) (h3 : ¬ (pileF fb v0 Bf ∨ vw.ownBlock = some Bf)) (hI : PileI fb base v0 l0 w0) (hn : l0.length + ws.length < 900000) :
    Calls Tryz.prog 46 #[vw, clV Bp Bb Bf] w0 fun e w' => ∃ u, e = .returned u ∧ DelA fb base v0 vw l0 w0 (goes pinned border) ws u w' := by
  rcases ho.2 with ⟨rfl, h0⟩ | ⟨g, cap, cur, rfl, hb, hh, _⟩
  · have hws : ws = [] := List.eq_nil_of_length_eq_zero h0
    subst hws
    refine (del_nil hE (fun h => h1 (.inl h)) (fun h => h2 (.inl h)) (fun h => h3 (.inl h)) hI (by simpa using hn)).mono ?_
    rintro e w' ⟨he, hS⟩
    exact ⟨_, he, World.ownsRow_nil _ _ _ _, (fun k hk => by cases hk), hS.mono (fun _ h => h.elim)⟩
  · have hown : ∀ k, (Value.slice (some ⟨g, 0, none⟩) ws.length cap).ownBlock = some k ↔ k = g := fun k => ⟨own_eq, fun h => by subst h; rfl⟩
    have hx : ∀ B, ¬ (pileF fb v0 B ∨ (Value.slice (some ⟨g, 0, none⟩) ws.length cap).ownBlock = some B) → ¬ (pileF fb v0 B ∨ B = g) := fun B hB h => hB (h.imp id (hown B).2)
    refine (del_rel g cap ws ho (hgp g rfl) hE (hx _ h1) (hx _ h2) (hx _ h3) hI hn).mono ?_
    rintro e w' ⟨u, he, h4, h5, h6⟩
    exact ⟨u, he, h4, fun k hk => (hown k).2 (h5 k hk), h6.mono (fun k hk => (hown k).2 hk)⟩
end

/-- How far the pins reach. -/
def PinMin (D : DU) (pinned : Bool) (border : Int) : Prop := (pinned = false ∧ intKeys D = []) ∨ (pinned = true ∧ border ∈ intKeys D ∧ ∀ x ∈ intKeys D, border ≤ x)

section
variable {fb base : Nat} {v vw vp : Value} {l : List Int} {ws : List (Int × Int)} {np : Nat} {D : DU} {F : Nat → Prop} {w w' : World}

theorem first_any {pb bs : Nat} {pv : Value} {pl ss : List Int} (h : PileI pb bs pv pl w) (hp1 : pl.Perm ss) (hp2 : ss.Perm (intKeys D)) : ∃ pinned border, PinMin D pinned border ∧ Calls Tryz.prog 45 #[.pointer (some ⟨pb, 0, none⟩)] w fun e w' => e = .returned (.tuple #[.int .i64 border, .bool pinned]) ∧ w = w' := by
  have hp := hp1.trans hp2
  cases pl with
  | nil => exact ⟨false, 0, .inl ⟨rfl, List.Perm.nil_eq hp |>.symm⟩, pile_first_none pb bs pv w h⟩
  | cons a t =>
    refine ⟨true, HL.el (a :: t) 0, .inr ⟨rfl, hp.mem_iff.1 (HL.el_mem _ _ (by simp)), fun x hx => ?_⟩, pile_first_some pb bs pv _ w h (by simp)⟩
    have e := HL.IsHeap.least_mem nlt_ord h.2 x (hp.mem_iff.2 hx)
    unfold nlt at e
    simpa using e

/-- What Release leaves. -/
def RelR (fb base : Nat) (l : List Int) (ws : List (Int × Int)) (np : Nat) (D : DU) (F : Nat → Prop) (w : World) (r : Int) (w' : World) : Prop :=
  ∃ pinned border l' F', PinMin D pinned border ∧ r = (ws.filter (goes pinned border)).length ∧ Fe fb base l' (ws.filter (fun x => !goes pinned border x)) np D F' w' ∧ l'.Perm (l ++ pagesOf (ws.filter (goes pinned border))) ∧ Step F F' w w'

theorem rel_fin {go : Int × Int → Bool} {u : Value} {w0 w5 : World} (h : FrI fb base v vw vp l ws np D w0) (hA : DelA fb base v vw l w0 go ws u w5) :
    ∃ l' F', Fe fb base l' (ws.filter (fun x => !go x)) np D F' (w5.setCell ⟨fb, 1, none⟩ u) ∧ l'.Perm (l ++ pagesOf (ws.filter go)) ∧ Step (freeF fb v vw vp) F' w0 (w5.setCell ⟨fb, 1, none⟩ u) := by
  obtain ⟨hrow, hown, v', l', hI, hp, hF, hL, hO⟩ := hA
  have hFs : Fr (fun k => k = fb) w5 (w5.setCell ⟨fb, 1, none⟩ u) := (Fr.refl (fun k => k = fb) w5).setCell (p := ⟨fb, 1, none⟩) (fun _ => rfl) _
  have hOs := Others.set fb 1 w5 u
  have hFF : Fr (freeF fb v vw vp) w0 (w5.setCell ⟨fb, 1, none⟩ u) := Fr.trans (hF.mono (fun i _ hi => by
    rcases hi with (hi | hi) | hi
    · exact .inl hi
    · exact .inr (.inl hi)
    · exact .inr (.inr (.inl hi)))) hFs (fun i hi _ => .inl hi)
  have hFP : Fr (fun k => k = fb ∨ v.ownBlock = some k ∨ vw.ownBlock = some k) w0 (w5.setCell ⟨fb, 1, none⟩ u) := Fr.trans (hF.mono (fun i _ hi => by
    rcases hi with (hi | hi) | hi
    · exact .inl hi
    · exact .inr (.inl hi)
    · exact .inr (.inr hi))) hFs (fun i hi _ => .inl hi)
  refine ⟨l', _, ⟨v', u, vp, ⟨⟨⟨(hOs 0 (by omega)).1.trans hI.1.1, (hOs 0 (by omega)).2.trans hI.1.2.1, hFs.owns hI.1.2.2.1 (fun g hg e => hI.1.2.2.2.1 (by rw [hg, show g = fb from e])), hI.1.2.2.2.1, hI.1.2.2.2.2.1, Nat.le_trans hI.1.2.2.2.2.2 hFs.size⟩, hI.2⟩, cell_set_same _ _ _ _ ((hO 1 (by omega)).1.trans h.c1), (frozen_set _ _ _ _).trans ((hO 1 (by omega)).2.trans h.f1), hFs.owns hrow (fun g hg e => h.n1 (by rw [hown g hg, show g = fb from e])), fun e => h.n1 (hown fb e), (hOs 2 (by omega)).1.trans ((hO 2 (by omega)).1.trans h.c2), (hOs 2 (by omega)).2.trans ((hO 2 (by omega)).2.trans h.f2), h.pins.keep hFP (fun k hk hk2 => h.apart2 hk2 hk), Nat.le_trans (List.length_filter_le _ _) h.few, h.fbb⟩, rfl⟩, hp, hFF, fun k hk => ?_⟩
  rcases hk with hk | hk | hk | hk
  · exact .inl (.inl hk)
  · exact (hL k hk).imp (fun e => .inr (.inl e)) id
  · exact .inl (.inr (.inr (.inl (hown k hk))))
  · exact .inl (.inr (.inr (.inr hk)))

theorem filter_count (go : Int × Int → Bool) (ws : List (Int × Int)) : (ws.filter go).length + (ws.filter (fun x => !go x)).length = ws.length := by
  induction ws with
  | nil => rfl
  | cons x ws ih =>
    cases h : go x <;> simp [h] <;> omega

set_option maxHeartbeats 4000000 in
set_option maxRecDepth 100000 in
theorem fe_release (h : Fe fb base l ws np D F w) (hnp : np ≤ 100000) (hn : l.length + ws.length < 900000) :
    Calls Tryz.prog 20 #[.pointer (some ⟨fb, 0, none⟩)] w fun e w' => ∃ r, e = .returned (.int .i64 r) ∧ RelR fb base l ws np D F w r w' := by
  obtain ⟨v, vw, vp, h, rfl⟩ := h
  obtain ⟨qw, cw, rfl⟩ := owns_slice h.row
  have hfl : fb < w.heap.size := cell_lt h.c1
  have hc1 := h.c1
  have hc2 := h.c2
  have hb0 : Below w.heap.size w (w.alloc (.cells #[.pointer (some ⟨fb, 0, none⟩)] 26)) := (Below.refl _ w).alloc (Nat.le_refl _) _
  have hx0 : (w.alloc (.cells #[.pointer (some ⟨fb, 0, none⟩)] 26)).cell? ⟨w.heap.size, 0, none⟩ = some (.pointer (some ⟨fb, 0, none⟩)) := by go_simp
  have hz0 : (w.alloc (.cells #[.pointer (some ⟨fb, 0, none⟩)] 26)).heap.size = w.heap.size + 1 := by simp
  have hc2' := (hb0.cell (p := ⟨fb, 2, none⟩) hfl).trans hc2
  obtain ⟨mb, rfl, hcol⟩ := collect_keys (h.pins.keep (Fr.of_all (S := fun _ => False) hb0) (fun _ _ h => h)) (by omega)
  rw [hz0] at hcol
  have HCOL := Lib.hid hcol
  have HH := Lib.hid h
  have HB0 := Lib.hid hb0
  clear h hcol hb0
  go_enter Tryz.func20, Tryz.ntmps20
  go_wp2_with fail
  refine (keys_call mb _).mono ?_
  rintro e w1 ⟨rfl, rfl⟩
  rw [hz0]
  go_wp2_with fail
  refine HCOL.out.mono ?_
  rintro e w2 ⟨sv, ss, rfl, hp, ho, hsl, hb⟩
  have hB2 : Below w.heap.size w w2 := ((HB0.out.alloc HB0.out.size (.cells #[.map mb] 37))).trans (hb.mono (by omega))
  have hx2 : w2.cell? ⟨w.heap.size, 0, none⟩ = some (.pointer (some ⟨fb, 0, none⟩)) := (hb.cell (p := ⟨w.heap.size, 0, none⟩) (by simp)).trans ((World.cell?_of_block (Below.heap_alloc _ _ _ (show w.heap.size < _ by rw [hz0]; omega))).trans hx0)
  have hz2 : w.heap.size + 2 ≤ w2.heap.size := by have := hb.size; simp at this; omega
  obtain ⟨q, c, rfl⟩ := owns_slice ho
  have HN := Lib.hid (pile_new q ss.length c ss w2 (RdI.of_own ho rfl) hsl)
  have HP := Lib.hid hp
  have HB2 := Lib.hid hB2
  clear hb ho hsl hp hB2 HCOL HB0 hx0 hc2'
  go_wp2_with fail
  refine HN.out.mono ?_
  rintro e w3 ⟨pb, pv, pl, rfl, hpb, hpI, hpp, hb3⟩
  have hB3 : Below w.heap.size w w3 := HB2.out.trans (hb3.mono (by omega))
  have hx3 := (hb3.cell (p := ⟨w.heap.size, 0, none⟩) (show w.heap.size < w2.heap.size by omega)).trans hx2
  have hz3 : w.heap.size + 2 ≤ w3.heap.size := Nat.le_trans hz2 hb3.size
  obtain ⟨pinned, border, hpin, hfirst⟩ := first_any hpI hpp HP.out
  have HFI := Lib.hid hfirst
  have HPIN := Lib.hid hpin
  have HB3 := Lib.hid hB3
  clear hb3 hpp hpI hfirst hpin hB3 HN HB2 HP hx2 hz2
  go_wp2_with fail
  refine HFI.out.mono ?_
  rintro e w4 ⟨rfl, rfl⟩
  have hB4 : Below w.heap.size w ((w3.alloc (.cells #[.int .i64 border] 3)).alloc (.cells #[.bool pinned] 4)) := (HB3.out.alloc HB3.out.size _).alloc (by simp; omega) _
  have hx4 : ((w3.alloc (.cells #[.int .i64 border] 3)).alloc (.cells #[.bool pinned] 4)).cell? ⟨w.heap.size, 0, none⟩ = some (.pointer (some ⟨fb, 0, none⟩)) := (((Below.refl w3.heap.size w3).alloc (Nat.le_refl _) _).alloc (by simp) _).cell (p := ⟨w.heap.size, 0, none⟩) (show w.heap.size < w3.heap.size by omega) |>.trans hx3
  have hb4 : ((w3.alloc (.cells #[.int .i64 border] 3)).alloc (.cells #[.bool pinned] 4)).cell? ⟨w3.heap.size, 0, none⟩ = some (.int .i64 border) := by go_simp
  have hp4 : ((w3.alloc (.cells #[.int .i64 border] 3)).alloc (.cells #[.bool pinned] 4)).cell? ⟨w3.heap.size + 1, 0, none⟩ = some (.bool pinned) := by go_simp
  have hz4 : ((w3.alloc (.cells #[.int .i64 border] 3)).alloc (.cells #[.bool pinned] 4)).heap.size = w3.heap.size + 2 := by simp
  have hc4 := (hB4.cell (p := ⟨fb, 1, none⟩) hfl).trans hc1
  have HB4 := Lib.hid hB4
  have HZ3 := Lib.hid hz3
  clear HFI hx3 hB4 HB3 hz3 hc1 hc2 hpb
  go_wp2_with fail
  generalize (w3.alloc (.cells #[.int .i64 border] 3)).alloc (.cells #[.bool pinned] 4) = W4 at *
  have HI4 : Hid (FrI fb base v (.slice qw ws.length cw) (.map mb) l ws np D W4.drew) := Lib.hid (HH.out.keep ((Fr.of_all (S := fun _ => False) HB4.out).drew) (fun _ _ h => h))
  have HLT : Hid (∀ k, freeF fb v (.slice qw ws.length cw) (.map mb) k → k < w.heap.size) := Lib.hid HH.out.lt
  have HDEL := Lib.hid (del_any (Bp := w3.heap.size + 1) (Bb := w3.heap.size) (Bf := w.heap.size) (pinned := pinned) (border := border) (w0 := W4.drew) HI4.out.row (fun g hg h => by
      rcases h with h | h
      · exact HI4.out.n1 (by rw [hg, h])
      · exact HI4.out.apart1 h hg) ⟨hp4, hb4, hx4⟩ (fun h => by have := HLT.out _ (h.elim (fun h => h.imp id .inl) (fun h => .inr (.inr (.inl h)))); have := HZ3.out; omega) (fun h => by have := HLT.out _ (h.elim (fun h => h.imp id .inl) (fun h => .inr (.inr (.inl h)))); have := HZ3.out; omega) (fun h => by have := HLT.out _ (h.elim (fun h => h.imp id .inl) (fun h => .inr (.inr (.inl h)))); omega) HI4.out.pile hn)
  unfold clV at HDEL
  clear hp4 hb4
  have hfb4 : fb < W4.heap.size := by have := HZ3.out; omega
  have hbf4 : w.heap.size < W4.heap.size := by have := HZ3.out; omega
  go_region_with (go_at_call 46; refine HDEL.out.mono ?_; rintro e w5 ⟨u, rfl, hA⟩; obtain ⟨pu, cu, rfl⟩ := owns_slice hA.1; have hx5 : w5.cell? ⟨w.heap.size, 0, none⟩ = some (.pointer (some ⟨fb, 0, none⟩)) := (by obtain ⟨_, _, v', l', hI, hp, hF, hL, hO⟩ := hA; exact (hF.cell (p := ⟨w.heap.size, 0, none⟩) hbf4 (fun h => Nat.lt_irrefl _ (HLT.out _ (h.elim (fun h => h.imp id .inl) (fun h => .inr (.inr (.inl h))))))).trans hx4); have hc5 : w5.cell? ⟨fb, 1, none⟩ = some (.slice qw ws.length cw) := (by obtain ⟨_, _, v', l', hI, hp, hF, hL, hO⟩ := hA; exact (hO 1 (by omega)).1.trans hc4); have hf5 : w5.frozen? ⟨fb, 1, none⟩ = false := (by obtain ⟨_, _, v', l', hI, hp, hF, hL, hO⟩ := hA; exact (hO 1 (by omega)).2.trans HI4.out.f1); have HFIN : Hid (RelR fb base l ws np D (freeF fb v (.slice qw ws.length cw) (.map mb)) w ((ws.length : Int) - ((ws.filter (fun x => !goes pinned border x)).length : Int)) (w5.setCell ⟨fb, 1, none⟩ (.slice pu (ws.filter (fun x => !goes pinned border x)).length cu))) := (by obtain ⟨l', F', g1, g2, g3⟩ := rel_fin HI4.out hA; refine Lib.hid ⟨pinned, border, l', F', HPIN.out, ?_, g1, g2, ?_⟩; (have := filter_count (goes pinned border) ws; omega); exact Step.trans (Step.trans (Step.still HB4.out) ⟨(Fr.refl _ W4).drew, fun k hk => .inl hk⟩) g3); have hx6 : (w5.setCell ⟨fb, 1, none⟩ (.slice pu (ws.filter (fun x => !goes pinned border x)).length cu)).cell? ⟨w.heap.size, 0, none⟩ = some (.pointer (some ⟨fb, 0, none⟩)) := (World.cell?_setCell_other _ _ _ _ (by intro e9; injection e9 with e9 _ _; omega)).trans hx5; have hc6 : (w5.setCell ⟨fb, 1, none⟩ (.slice pu (ws.filter (fun x => !goes pinned border x)).length cu)).cell? ⟨fb, 1, none⟩ = some (.slice pu (ws.filter (fun x => !goes pinned border x)).length cu) := cell_set_same _ _ _ _ hc5; clear hA)
  all_goals
    clear hx5 hc5 hf5 hx4 hc4
    have hmn : (ws.filter (fun x => !goes pinned border x)).length ≤ ws.length := List.length_filter_le _ _
    generalize (ws.filter (fun x => !goes pinned border x)).length = m at *
    go_wp2
    go_ret
    exact ⟨_, rfl, HFIN.out⟩
end
end Go.Proofs.YtedcpckocedcoaaGreat
