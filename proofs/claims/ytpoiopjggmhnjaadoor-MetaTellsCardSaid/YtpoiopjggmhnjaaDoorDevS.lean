/- dev: slices.Clone at strings; the contract of Sync, of a device that has power and no fuse. -/
import Derived.Test.YtpoiopjggmhnjaaDoorDevW
namespace Go.Proofs.YtpoiopjggmhnjaaDoor
open Go.RowKit Go.Conc

theorem rowOf_smap (zs : List ByteArray) : rowOf scells zs = zs.map Value.string := by
  induction zs with
  | nil => rfl
  | cons x zs ih => simp only [rowOf, List.flatMap_cons, List.map_cons] at *; rw [ih]; rfl

theorem clone_strs (base : Nat) (v : Value) (zs : List ByteArray) (w : World) (ho : w.ownsRow base 9 1 v zs.length (rowOf scells zs)) (hn : zs.length ≤ 1000000) :
    Calls Tryd.prog 44 #[v] w fun e w' => ∃ v', e = .returned v' ∧ w'.ownsRow w.heap.size 9 1 v' zs.length (rowOf scells zs) ∧ Below w.heap.size w w' := by
  rcases ho.2 with ⟨rfl, hz⟩ | ⟨g, cap, cur, rfl, hbase, hg, r1, r2, r3, r4⟩
  · have : zs = [] := List.eq_nil_of_length_eq_zero hz
    subst this
    refine (Tryd.slices_Clone_string_nil 0 0 w).mono ?_
    rintro e w' ⟨rfl, rfl⟩
    exact ⟨_, rfl, World.ownsRow_nil _ _ _ _, Below.refl _ _⟩
  · refine (Tryd.slices_Clone_string g 0 zs.length cap zs w (Nat.le_refl _) (by omega) (fun j hj => ?_)).mono ?_
    · have e := ho.cells (g := g) rfl j (.string (zs.getD j ByteArray.empty)) (by rw [rowOf_smap, List.getElem?_map, List.getElem?_eq_getElem hj]; simp [List.getD_eq_getElem?_getD, hj])
      rw [add_at0] at e
      rw [Nat.zero_add]
      exact e
    · rintro e w' ⟨v', rfl, ho', _, hb⟩
      rw [List.take_length, ← rowOf_smap] at ho'
      exact ⟨v', rfl, ho', hb⟩

section
variable {db base : Nat} {m lf : Int} {on fu : Bool} {sy nw ss : List ByteArray} {ws : List Wr} {v4 v5 cv u : Value} {w : World}
/-- Another row of pages, a new one, is what is synced. -/
theorem DevI.sync (h : DevI db base m on fu lf sy nw ws v4 v5 cv w) {B : Nat} (hB : base ≤ B) (hu : w.ownsRow B 9 1 u ss.length (rowOf scells ss)) (hdb : db < B) (h5 : ∀ g, v5.ownBlock = some g → g < B) :
    DevI db base m on fu lf ss nw ws u v5 cv (w.setCell ⟨db, 4, none⟩ u) ∧ Fr (fun k => k = db) w (w.setCell ⟨db, 4, none⟩ u) := by
  have hF : Fr (fun k => k = db) w (w.setCell ⟨db, 4, none⟩ u) := (Fr.refl (fun i => i = db) w).setCell (fun _ => rfl) _
  have co : ∀ o, o ≠ 4 → (w.setCell ⟨db, 4, none⟩ u).cell? ⟨db, o, none⟩ = w.cell? ⟨db, o, none⟩ := fun o ho => World.cell?_setCell_other _ _ _ _ (by intro e9; injection e9 with _ e9 _; omega)
  have hun : u.ownBlock ≠ some db := fun e => by have := (hu.lt db e).1; omega
  refine ⟨⟨(co 0 (by omega)).trans h.c0, (co 1 (by omega)).trans h.c1, (co 2 (by omega)).trans h.c2, (co 3 (by omega)).trans h.c3, cell_set_same w ⟨db, 4, none⟩ u v4 h.c4, (co 5 (by omega)).trans h.c5, (co 6 (by omega)).trans h.c6, fun o ho => (frozen_set _ _ _ _).trans (h.fz o ho), ?_, hF.owns h.o5 (fun g hg e => h.n5 (by rw [hg, e])), hun, h.n5, fun g hg e => ?_, h.ch.keep hF (fun c e9 h9 => ?_), h.bs, h.bc⟩, hF⟩
  · have e := hF.owns hu (fun g hg e => hun (by rw [hg, e]))
    refine ⟨e.1, ?_⟩
    rcases e.2 with e | ⟨g, c, cur, e, hb, rest⟩
    · exact .inl e
    · exact .inr ⟨g, c, cur, e, by omega, rest⟩
  · have h1 := (hu.lt g hg).1
    have h2 := h5 g e
    omega
  · rcases h.ch with ⟨e8, _⟩ | ⟨c8, cap8, s8, r8, e8, hc8, _⟩
    · rw [e8] at e9; cases e9
    · rw [e8] at e9; injection e9 with e9; injection e9 with e9; subst e9; exact not_chan h.c0 hc8 h9.symm

theorem DevI.drained {w' : World} {ws' : List Wr} (h : DevI db base m on fu lf sy nw ws v4 v5 cv w) (hF : Fr (fun k => cv = .chan (some k)) w w') (hc : ChanI w' cv ws') : DevI db base m on fu lf sy nw ws' v4 v5 cv w' := by
  have hdl : db < w.heap.size := cell_lt h.c0
  have hcn : ∀ k, cv = .chan (some k) → ∃ cap s r, w.heap[k]? = some (chanOf cap s r ws) := by
    intro k hk
    rcases h.ch with ⟨e8, _⟩ | ⟨c8, cap8, s8, r8, e8, hc8, _⟩
    · rw [e8] at hk; cases hk
    · rw [e8] at hk; injection hk with hk; injection hk with hk; subst hk; exact ⟨_, _, _, hc8⟩
  have hdb : cv ≠ .chan (some db) := fun e => by
    obtain ⟨a9, b9, c9, h9⟩ := hcn db e
    exact not_chan h.c0 h9 rfl
  have cc : ∀ o, w'.cell? ⟨db, o, none⟩ = w.cell? ⟨db, o, none⟩ := fun o => hF.cell (p := ⟨db, o, none⟩) hdl hdb
  have ff : ∀ o, w'.frozen? ⟨db, o, none⟩ = w.frozen? ⟨db, o, none⟩ := fun o => hF.frozen (p := ⟨db, o, none⟩) hdl hdb
  have ko : ∀ {v : Value} {n : Nat} {xs : List Value}, w.ownsRow base 9 1 v n xs → w'.ownsRow base 9 1 v n xs := fun hov => hF.owns hov (fun g hg e => by
    obtain ⟨a9, b9, c9, h9⟩ := hcn g e
    exact owns_not_chan hov hg h9 rfl)
  exact ⟨(cc 0).trans h.c0, (cc 1).trans h.c1, (cc 2).trans h.c2, (cc 3).trans h.c3, (cc 4).trans h.c4, (cc 5).trans h.c5, (cc 6).trans h.c6, fun k hk => (ff k).trans (h.fz k hk), ko h.o4, ko h.o5, h.n4, h.n5, h.n45, hc, h.bs, h.bc⟩
end

set_option maxHeartbeats 2000000 in
set_option maxRecDepth 100000 in
theorem dev_sync (db base : Nat) (m lf : Int) (sy nw : List ByteArray) (ws : List Wr) (v4 v5 cv : Value) (w : World) (h : DevI db base m true false lf sy nw ws v4 v5 cv w) (hb : base ≤ w.heap.size) (hn : nw.length ≤ 3000) (hw : ws.length ≤ 1000) :
    Calls Tryd.prog 22 #[.pointer (some ⟨db, 0, none⟩)] w fun e w' => e = .returned (.int .i64 0) ∧ ∃ u, DevI db base m true false lf nw nw [] u v5 cv w' ∧ Fr (devF db v4 v5 cv) w w' ∧ (∀ g, u.ownBlock = some g → w.heap.size ≤ g) := by
  have HOFF := Lib.hid (dev_off db true w h.c1)
  have HOP := Lib.hid (dev_op_plain db w h.c2)
  have HDR := Lib.hid (drain_any db cv ws w h.c6 h.ch (by omega))
  have HH := Lib.hid h
  clear h
  go_enter Tryd.func22, Tryd.ntmps22
  go_wp2_with fail
  refine HOFF.out.mono ?_
  rintro e w1 ⟨rfl, rfl⟩
  go_wp2_with fail
  refine HOP.out.mono ?_
  rintro e w1 ⟨rfl, rfl⟩
  go_wp2_with fail
  refine HDR.out.mono ?_
  rintro e w2 ⟨v2, rfl, _, hF2, hch2⟩
  have hI2 := HH.out.drained hF2 hch2
  have hc5 := hI2.c5
  have HCS := Lib.hid (clone_strs base v5 nw w2 hI2.o5 (by omega))
  have HI2 := Lib.hid hI2
  have HF2 := Lib.hid hF2
  clear hF2 hch2 hI2 HDR HOFF HOP
  go_wp2_with fail
  refine HCS.out.mono ?_
  rintro e w3 ⟨u, rfl, hou, hb3⟩
  have hI3 := HI2.out.keep (Fr.of_all (S := fun _ => False) hb3) (fun _ _ h => h)
  have hsy := hI3.sync (Nat.le_trans hb HF2.out.size) hou (HI2.out.lt db (.inl rfl)) (fun g hg => HI2.out.lt g (.inr (.inr (.inl hg))))
  have hc4 := hI3.c4
  have hf4 := hI3.fz 4 (by omega)
  obtain ⟨pu, cu, rfl⟩ := owns_slice hou
  have HOU := Lib.hid hou
  have HB3 := Lib.hid hb3
  have HSY := Lib.hid hsy
  clear hou hb3 hsy hI3 HCS
  go_wp2
  go_ret
  refine ⟨rfl, _, HSY.out.1, ?_, fun g hg => Nat.le_trans HF2.out.size (HOU.out.lt g hg).1⟩
  refine Fr.trans (Fr.trans (HF2.out.mono (fun i _ hi => (.inr (.inr (.inr hi)) : devF db v4 v5 cv i))) (Fr.of_all (S := fun _ => False) HB3.out) (fun i hi _ => hi.elim)) HSY.out.2 (fun i hi _ => .inl hi)
end Go.Proofs.YtpoiopjggmhnjaaDoor
