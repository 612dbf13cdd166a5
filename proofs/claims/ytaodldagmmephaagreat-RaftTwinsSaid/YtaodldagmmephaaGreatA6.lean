/- Merged texts: Rf5 Rf6 Rf7 Rf8 Rf9. -/
import Derived.Test.YtaodldagmmephaaGreatA5
/- raft: say. -/
namespace Go.Proofs.YtaodldagmmephaaGreat
open Go.RowKit Go.Maps
namespace RF
theorem mcells_one (x : Mg × Value) (hx : ∃ p n c, x.2 = .slice p n c) : ∀ u ∈ mcells x, u.oneCell' = true := by
  obtain ⟨p, n, c, hx⟩ := hx
  intro u hu
  unfold mcells at hu
  rw [hx] at hu
  simp only [List.mem_cons, List.not_mem_nil, or_false] at hu
  rcases hu with rfl | rfl | rfl | rfl | rfl | rfl | rfl | rfl | rfl | rfl | rfl | rfl | rfl | rfl <;> rfl
/-- Messages whose entries are slices. -/
abbrev MV := { x : Mg × Value // ∃ p n c, x.2 = .slice p n c }
def mvcells (x : MV) : List Value := mcells x.1
theorem mvcells_length (x : MV) : (mvcells x).length = 14 := rfl
theorem msg_T : RowT Tryz.prog 35 48 mvcells 14 152 :=
  RowT.of Tryz.underlying35 info_msg rfl (by omega) mvcells_length (fun x u hu => mcells_one x.1 x.2 u hu) (by omega)
theorem rowOf_mv (l : List MV) : rowOf mvcells l = rowOf mcells (l.map (·.1)) := by
  unfold rowOf
  rw [List.flatMap_map]
  rfl
section
variable {rb base : Nat} {s : RS} {h : Hd} {w : World} {M : Int} {N : Nat}

/-- What is told grows by a message. -/
theorem Rf.told (H : Rf rb base s h w) (m : Mg) (ev ov' : Value) {w' : World} (hF : Fr (fun k => k = rb ∨ h.ov.ownBlock = some k) w w') (hc : ∀ j u, (cells (s.say m) { h with ov := ov', mh := h.mh ++ [({ m with fr := s.id, tm := s.term }, ev)] })[j]? = some u → w'.cell? ⟨rb, j, none⟩ = some u) (hz : ∀ j, j < 17 → w'.frozen? ⟨rb, j, none⟩ = false)
    (ho : w'.ownsRow base 48 14 ov' (h.mh.length + 1) (rowOf mcells (h.mh ++ [({ m with fr := s.id, tm := s.term }, ev)]))) (hl : ov'.ownBlock = h.ov.ownBlock ∨ ∀ k, ov'.ownBlock = some k → w.heap.size ≤ k)
    (hev : w.ownsRow base 25 4 ev m.en.length (rowOf ecells m.en)) (hn : ∀ k, ev.ownBlock = some k → ∀ q, ¬ part rb h q k) :
    Rf rb base (s.say m) { h with ov := ov', mh := h.mh ++ [({ m with fr := s.id, tm := s.term }, ev)] } w' := by
  refine H.upd (fun p => p = .core ∨ p = .msgs ∨ p = .ents) (fun p k => (p = .msgs ∧ w.heap.size ≤ k) ∨ (p = .ents ∧ ev.ownBlock = some k)) hF ?_ ?_ ?_ ?_ ?_
  · rintro k (rfl | hk) p hp
    · exact .inl (H.dis p .core k hp rfl)
    · exact .inr (.inl (H.dis p .msgs k hp hk))
  · rintro p (rfl | rfl | rfl)
    · exact ⟨hc, hz, (H.all .core).2.2⟩
    · exact ⟨by rw [List.length_append]; exact ho, by rw [List.map_append, (H.all .msgs).2]; rfl⟩
    · intro x hx
      rcases List.mem_append.1 hx with hx | hx
      · refine hF.owns (H.all .ents x hx) (fun g hg hs => ?_)
        rcases hs with rfl | hs
        · have := H.dis .ents .core g ⟨x, hx, hg⟩ rfl
          cases this
        · have := H.dis .ents .msgs g ⟨x, hx, hg⟩ hs
          cases this
      · rw [List.mem_singleton] at hx
        subst hx
        refine hF.owns hev (fun g hg hs => ?_)
        rcases hs with rfl | hs
        · exact hn g hg .core rfl
        · exact hn g hg .msgs hs
  · intro p hp hh
    cases p with
    | core => exact absurd (.inl rfl) hp
    | msgs => exact absurd (.inr (.inl rfl)) hp
    | ents => exact absurd (.inr (.inr rfl)) hp
    | log => exact hh
    | snap => exact hh
    | map => exact hh
    | peers => exact hh
    | votes => exact hh
    | need => exact hh
  · intro p k hk
    cases p with
    | msgs =>
      rcases hl with e | e
      · exact .inl (e.symm.trans hk)
      · exact .inr ⟨.inl ⟨rfl, e k hk⟩, fun q hq => by have := (part_lt (H.all q) k hq).2; have := e k hk; omega⟩
    | ents =>
      obtain ⟨x, hx, hk⟩ := hk
      rcases List.mem_append.1 hx with hx | hx
      · exact .inl ⟨x, hx, hk⟩
      · rw [List.mem_singleton] at hx
        subst hx
        exact .inr ⟨.inr ⟨rfl, hk⟩, hn k hk⟩
    | core => exact .inl hk
    | log => exact .inl hk
    | snap => exact .inl hk
    | map => exact .inl hk
    | peers => exact .inl hk
    | votes => exact .inl hk
    | need => exact .inl hk
  · rintro p q k (⟨rfl, h1⟩ | ⟨rfl, h1⟩) (⟨rfl, h2⟩ | ⟨rfl, h2⟩)
    · rfl
    · have := (hev.lt k h2).2; omega
    · have := (hev.lt k h1).2; omega
    · rfl

theorem mh_mv (H : Rf rb base s h w) : ∃ l : List MV, l.map (·.1) = h.mh := by
  have h1 : ∀ x, x ∈ h.mh → w.ownsRow base 25 4 x.2 x.1.en.length (rowOf ecells x.1.en) := H.all .ents
  generalize h.mh = L at h1 ⊢
  clear H
  induction L with
  | nil => exact ⟨[], rfl⟩
  | cons x L ih =>
    obtain ⟨p, c, hv⟩ := owns_slice (h1 x List.mem_cons_self)
    obtain ⟨l, hl⟩ := ih (fun y hy => h1 y (List.mem_cons_of_mem _ hy))
    exact ⟨⟨x, p, _, c, hv⟩ :: l, by rw [List.map_cons, hl]⟩

set_option maxHeartbeats 2000000 in
set_option maxRecDepth 100000 in
theorem rf_say (m : Mg) (ev : Value) (H : Rf rb base s h w) (hev : w.ownsRow base 25 4 ev m.en.length (rowOf ecells m.en)) (hn : ∀ k, ev.ownBlock = some k → ∀ q, ¬ part rb h q k) (hms : h.mh.length ≤ 900000) :
    Calls Tryz.prog 95 #[.pointer (some ⟨rb, 0, none⟩), mval (m, ev)] w fun e w' => e = .returned (.tuple #[]) ∧ ∃ ov', Rf rb base (s.say m) { h with ov := ov', mh := h.mh ++ [({ m with fr := s.id, tm := s.term }, ev)] } w' ∧ Fr (fun k => k = rb ∨ h.ov.ownBlock = some k) w w' ∧ (ov'.ownBlock = h.ov.ownBlock ∨ ∀ k, ov'.ownBlock = some k → w.heap.size ≤ k) := by
  obtain ⟨p0, c0, hv0⟩ := owns_slice hev
  have HEV := Lib.hid hev
  have HN := Lib.hid hn
  subst hv0
  have HH := Lib.hid H
  obtain ⟨LM, hLM⟩ := mh_mv H
  have HLM := Lib.hid hLM
  have HL1 : Hid (LM.length = h.mh.length) := Lib.hid (by rw [← hLM, List.length_map])
  have HB1 : Hid (Below w.heap.size w (w.alloc (.cells (mcells (m, .slice p0 m.en.length c0)).toArray 48))) := Lib.hid ((Below.refl _ w).alloc (Nat.le_refl _) _)
  have hm1 := MBox.fresh w (m, .slice p0 m.en.length c0)
  have hR1 := H.below HB1.out
  have q0 : ∀ q : Later w, q.1.cell? ⟨rb, 0, none⟩ = some (.int .i64 s.id) := H.q 0 rfl
  have q3 : ∀ q : Later w, q.1.cell? ⟨rb, 3, none⟩ = some (.int .i64 s.term) := H.q 3 rfl
  have HM1 := Lib.hid hm1
  have HR1 := Lib.hid hR1
  have HSZ : Hid ((w.alloc (.cells (mcells (m, .slice p0 m.en.length c0)).toArray 48)).heap.size = w.heap.size + 1) := Lib.hid (by simp)
  have hrb : rb < w.heap.size := H.rlt
  unfold mval
  unfold mcells at HSZ HB1 HR1
  dsimp only at *
  clear H hev hR1 hm1 hn hLM
  go_enter Tryz.func95, Tryz.ntmps95
  go_wp2_with fail
  have HM1b : Hid (MBox w.heap.size (m, .slice p0 m.en.length c0) (w.alloc (.cells #[.int .i64 m.kd, .int .i64 m.fr, .int .i64 m.tq, .int .i64 m.tm, .int .i64 m.ix, .int .i64 m.lt, .int .i64 m.cm, .int .i64 m.rd, .bool m.ok, .bool false, .slice p0 m.en.length c0, .slice none 0 0, .int .i64 0, .slice none 0 0] 48))) := Lib.hid HM1.out
  clear HM1
  generalize w.alloc (.cells #[.int .i64 m.kd, .int .i64 m.fr, .int .i64 m.tq, .int .i64 m.tm, .int .i64 m.ix, .int .i64 m.lt, .int .i64 m.cm, .int .i64 m.rd, .bool m.ok, .bool false, .slice p0 m.en.length c0, .slice none 0 0, .int .i64 0, .slice none 0 0] 48) = W1 at *
  obtain ⟨B, hB⟩ : ∃ B, B = w.heap.size := ⟨_, rfl⟩
  have HBB := Lib.hid hB
  rw [← hB] at HM1b ⊢
  clear hB
  have b1 : W1.cell? ⟨B, 1, none⟩ = some (.int .i64 m.fr) := HM1b.out.1 1 _ rfl
  have b3 : W1.cell? ⟨B, 3, none⟩ = some (.int .i64 m.tm) := HM1b.out.1 3 _ rfl
  have g1 : W1.frozen? ⟨B, 1, none⟩ = false := HM1b.out.2 1 (by omega)
  have g3 : W1.frozen? ⟨B, 3, none⟩ = false := HM1b.out.2 3 (by omega)
  have HT1 := Lib.hid ((HM1b.out.set ({ m with fr := s.id }, .slice p0 m.en.length c0) 1 (.int .i64 s.id) (by omega) rfl))
  have HT2 := Lib.hid ((HT1.out.set ({ m with fr := s.id, tm := s.term }, .slice p0 m.en.length c0) 3 (.int .i64 s.term) (by omega) rfl))
  have HBW : Hid (∀ a b, Below w.heap.size w (((W1.setCell ⟨B, 1, none⟩ a).setCell ⟨B, 3, none⟩ b))) := Lib.hid (fun a b => (HB1.out.setCell (p := ⟨B, 1, none⟩) (by rw [HBB.out]; exact Nat.le_refl _) _).setCell (p := ⟨B, 3, none⟩) (by rw [HBB.out]; exact Nat.le_refl _) _)
  refine Mix.region_mix (n := 11) (m := 3) (fun V => ∃ q : Later w, V = q.1) [0, 1, 2, 3, 4, 5, 6, 7, 8] (by kernel_rfl) rfl rfl (by kernel_rfl) (by kernel_rfl) ⟨⟨_, HB1.out.drew⟩, rfl⟩ ?_
  repeat (refine Mix.picks_step rfl ?_; go_big_quiet_step (fail))
  refine Mix.picks_nil ?_
  intro inv
  refine sink_one (i := 9) (by kernel_rfl) rfl (by omega) inv (fun K hK => ?_)
  have HKK := Lib.hid hK
  clear hK
  go_simp
  refine HKK.out _ _ ⟨⟨_, (HB1.out.setCell (p := ⟨B, 1, none⟩) (by rw [HBB.out]; exact Nat.le_refl _) _).drew⟩, rfl⟩ ?_
  clear HKK inv
  intro hS inv
  (try simp only [Act.put]); (try simp only [List.setIfInBounds_toArray]); (try simp only [List.set_cons_succ]); (try simp only [List.set_cons_zero])
  refine sink_one (i := 10) (by kernel_rfl) rfl (by omega) inv (fun K hK => ?_)
  have HKK := Lib.hid hK
  clear hK
  go_simp
  refine HKK.out _ _ ⟨⟨_, (HB1.out.setCell (p := ⟨B, 1, none⟩) (by rw [HBB.out]; exact Nat.le_refl _) _).drew⟩, rfl⟩ ?_
  clear HKK inv
  intro hS inv
  (try simp only [Act.put]); (try simp only [List.setIfInBounds_toArray]); (try simp only [List.set_cons_succ]); (try simp only [List.set_cons_zero])
  refine sink_last (by kernel_rfl) rfl (by kernel_rfl) (fun K hK => ?_)
  have HKK := Lib.hid hK
  clear hK
  go_simp
  refine HKK.out _ _ ⟨rfl, ?_⟩
  clear HKK inv hS
  clear q0 q3 b1 b3 g1 g3 HT1
  have HBW2 := Lib.hid ((HBW.out (.int .i64 s.id) (.int .i64 s.term)).drew)
  have HT3 : Hid (MBox B ({ m with fr := s.id, tm := s.term }, .slice p0 m.en.length c0) ((W1.setCell ⟨B, 1, none⟩ (.int .i64 s.id)).setCell ⟨B, 3, none⟩ (.int .i64 s.term)).drew) := Lib.hid HT2.out
  clear HT2 HBW
  generalize ((W1.setCell ⟨B, 1, none⟩ (.int .i64 s.id)).setCell ⟨B, 3, none⟩ (.int .i64 s.term)).drew = W2 at *
  obtain ⟨y, hy⟩ : ∃ y : MV, y.1 = ({ m with fr := s.id, tm := s.term }, .slice p0 m.en.length c0) := ⟨⟨_, _, _, _, rfl⟩, rfl⟩
  have HOV := Lib.hid (HH.out.all .msgs).1
  have HNB : Hid (¬ h.ov.ownBlock = some B) := Lib.hid (fun e => by have := ((HH.out.all .msgs).1.lt B e).2; have := HBB.out; omega)
  have HNR : Hid (¬ h.ov.ownBlock = some rb) := Lib.hid (fun e => by have := HH.out.dis .msgs .core rb e rfl; cases this)
  have r0 : ∀ q : KeptF (fun k => h.ov.ownBlock = some k) W2, q.1.cell? ⟨B, 0, none⟩ = some (.int .i64 (({ m with fr := s.id, tm := s.term }, Value.slice p0 m.en.length c0) : Mg × Value).1.kd) := fun q => (HT3.out.keep q.2 HNB.out).1 0 _ rfl
  have r1 : ∀ q : KeptF (fun k => h.ov.ownBlock = some k) W2, q.1.cell? ⟨B, 1, none⟩ = some (.int .i64 (({ m with fr := s.id, tm := s.term }, Value.slice p0 m.en.length c0) : Mg × Value).1.fr) := fun q => (HT3.out.keep q.2 HNB.out).1 1 _ rfl
  have r2 : ∀ q : KeptF (fun k => h.ov.ownBlock = some k) W2, q.1.cell? ⟨B, 2, none⟩ = some (.int .i64 (({ m with fr := s.id, tm := s.term }, Value.slice p0 m.en.length c0) : Mg × Value).1.tq) := fun q => (HT3.out.keep q.2 HNB.out).1 2 _ rfl
  have r3 : ∀ q : KeptF (fun k => h.ov.ownBlock = some k) W2, q.1.cell? ⟨B, 3, none⟩ = some (.int .i64 (({ m with fr := s.id, tm := s.term }, Value.slice p0 m.en.length c0) : Mg × Value).1.tm) := fun q => (HT3.out.keep q.2 HNB.out).1 3 _ rfl
  have r4 : ∀ q : KeptF (fun k => h.ov.ownBlock = some k) W2, q.1.cell? ⟨B, 4, none⟩ = some (.int .i64 (({ m with fr := s.id, tm := s.term }, Value.slice p0 m.en.length c0) : Mg × Value).1.ix) := fun q => (HT3.out.keep q.2 HNB.out).1 4 _ rfl
  have r5 : ∀ q : KeptF (fun k => h.ov.ownBlock = some k) W2, q.1.cell? ⟨B, 5, none⟩ = some (.int .i64 (({ m with fr := s.id, tm := s.term }, Value.slice p0 m.en.length c0) : Mg × Value).1.lt) := fun q => (HT3.out.keep q.2 HNB.out).1 5 _ rfl
  have r6 : ∀ q : KeptF (fun k => h.ov.ownBlock = some k) W2, q.1.cell? ⟨B, 6, none⟩ = some (.int .i64 (({ m with fr := s.id, tm := s.term }, Value.slice p0 m.en.length c0) : Mg × Value).1.cm) := fun q => (HT3.out.keep q.2 HNB.out).1 6 _ rfl
  have r7 : ∀ q : KeptF (fun k => h.ov.ownBlock = some k) W2, q.1.cell? ⟨B, 7, none⟩ = some (.int .i64 (({ m with fr := s.id, tm := s.term }, Value.slice p0 m.en.length c0) : Mg × Value).1.rd) := fun q => (HT3.out.keep q.2 HNB.out).1 7 _ rfl
  have r8 : ∀ q : KeptF (fun k => h.ov.ownBlock = some k) W2, q.1.cell? ⟨B, 8, none⟩ = some (.bool (({ m with fr := s.id, tm := s.term }, Value.slice p0 m.en.length c0) : Mg × Value).1.ok) := fun q => (HT3.out.keep q.2 HNB.out).1 8 _ rfl
  have r9 : ∀ q : KeptF (fun k => h.ov.ownBlock = some k) W2, q.1.cell? ⟨B, 9, none⟩ = some (.bool false) := fun q => (HT3.out.keep q.2 HNB.out).1 9 _ rfl
  have r10 : ∀ q : KeptF (fun k => h.ov.ownBlock = some k) W2, q.1.cell? ⟨B, 10, none⟩ = some ((({ m with fr := s.id, tm := s.term }, Value.slice p0 m.en.length c0) : Mg × Value).2) := fun q => (HT3.out.keep q.2 HNB.out).1 10 _ rfl
  have r11 : ∀ q : KeptF (fun k => h.ov.ownBlock = some k) W2, q.1.cell? ⟨B, 11, none⟩ = some (.slice none 0 0) := fun q => (HT3.out.keep q.2 HNB.out).1 11 _ rfl
  have r12 : ∀ q : KeptF (fun k => h.ov.ownBlock = some k) W2, q.1.cell? ⟨B, 12, none⟩ = some (.int .i64 0) := fun q => (HT3.out.keep q.2 HNB.out).1 12 _ rfl
  have r13 : ∀ q : KeptF (fun k => h.ov.ownBlock = some k) W2, q.1.cell? ⟨B, 13, none⟩ = some (.slice none 0 0) := fun q => (HT3.out.keep q.2 HNB.out).1 13 _ rfl
  have hrb2 : rb < W2.heap.size := Nat.lt_of_lt_of_le hrb HBW2.out.size
  have hR2 : Rf rb base s h W2 := HH.out.below HBW2.out
  obtain ⟨po, co, hvo⟩ := owns_slice HOV.out
  have HVO := Lib.hid hvo
  have q13 : ∀ q : KeptF (fun k => h.ov.ownBlock = some k) W2, q.1.cell? ⟨rb, 13, none⟩ = some (.slice po h.mh.length co) := fun q => (q.2.cell (p := ⟨rb, 13, none⟩) hrb2 HNR.out).trans ((hR2.cell 13 rfl).trans (by rw [HVO.out]))
  have HR2 := Lib.hid hR2
  clear hR2
  dsimp only at r0 r1 r2 r3 r4 r5 r6 r7 r8 r9 r10 r11 r12 r13
  clear hvo
  go_wp2_with fail
  refine Mix.region_mix (n := 12) (m := 6) (fun V => ∃ q : KeptF (fun k => h.ov.ownBlock = some k) W2, V = q.1) [0, 1, 2, 3, 4, 5, 6] (by kernel_rfl) rfl rfl (by kernel_rfl) (by kernel_rfl) ⟨⟨_, (Fr.refl _ _).drew⟩, rfl⟩ ?_
  repeat (refine Mix.picks_step rfl ?_; go_big_quiet_step (fail))
  refine Mix.picks_nil ?_
  intro inv
  refine sink_one (i := 7) (by kernel_rfl) rfl (by omega) inv (fun K hK => ?_)
  have HKK := Lib.hid hK
  clear hK
  go_simp
  have HF3 : Hid (∀ o, Fr (fun k => h.ov.ownBlock = some k) W2 (W2.alloc o)) := Lib.hid (fun o => (Fr.refl _ W2).alloc o)
  refine HKK.out _ _ ⟨⟨_, (HF3.out _).drew⟩, rfl⟩ ?_
  clear HKK inv
  intro hS inv
  (try simp only [Act.put]); (try simp only [List.setIfInBounds_toArray]); (try simp only [List.set_cons_succ]); (try simp only [List.set_cons_zero])
  refine sink_one (i := 8) (by kernel_rfl) rfl (by omega) inv (fun K hK => ?_)
  have HKK := Lib.hid hK
  clear hK
  refine RowT.step msg_T rfl _ _ rfl base h.ov h.mh.length (rowOf mcells h.mh) (by rw [HVO.out]; rfl) ((HR2.out.all .msgs).1.alloc _) (m := 1) (zs := [y]) rfl (one_cells W2 [.int .i64 m.kd, .int .i64 s.id, .int .i64 m.tq, .int .i64 s.term, .int .i64 m.ix, .int .i64 m.lt, .int .i64 m.cm, .int .i64 m.rd, .bool m.ok, .bool false, .slice p0 m.en.length c0, .slice none 0 0, .int .i64 0, .slice none 0 0] 48 mvcells y (by unfold mvcells; rw [hy]; rfl)) (fun h => by cases h) (by omega) (by have := HR2.out.bs; simp; omega) ?_
  intro v4 w4 hown4 hgr4 hat4
  have HF4 : Hid (Fr (fun k => h.ov.ownBlock = some k) W2 w4) := Lib.hid (Fr.trans (HF3.out _).drew (Fr.of_grown hgr4 (S := fun k => h.ov.ownBlock = some k) (fun _ _ h => h)) (fun i hi _ => hi))
  have hlow : v4.ownBlock = h.ov.ownBlock ∨ ∀ g, v4.ownBlock = some g → w.heap.size ≤ g := by
    rcases hat4 with e | e
    · exact .inl e
    · refine .inr (fun g hg => ?_)
      rw [e] at hg
      injection hg with hg
      have := HBW2.out.size
      simp at hg
      omega
  have HLOW := Lib.hid hlow
  have hrow : w4.ownsRow base 48 14 v4 (h.mh.length + 1) (rowOf mcells (h.mh ++ [({ m with fr := s.id, tm := s.term }, .slice p0 m.en.length c0)])) := by
    have e : rowOf mvcells [y] = rowOf mcells [({ m with fr := s.id, tm := s.term }, .slice p0 m.en.length c0)] := by rw [rowOf_mv, List.map_singleton, hy]
    rw [rowOf_append, ← e]
    exact hown4
  have hne : v4.ownBlock ≠ some rb := fun e => by
    rcases hlow with h9 | h9
    · exact HNR.out (h9.symm.trans e)
    · have := h9 rb e; omega
  have HROW := Lib.hid ((fr_core w4 rb 13 v4).owns hrow (fun g hg e => hne (by rw [hg, e])))
  have hc4 : ∀ o, w4.cell? ⟨rb, o, none⟩ = W2.cell? ⟨rb, o, none⟩ := fun o => HF4.out.cell (p := ⟨rb, o, none⟩) hrb2 HNR.out
  have hz4 : ∀ o, w4.frozen? ⟨rb, o, none⟩ = W2.frozen? ⟨rb, o, none⟩ := fun o => HF4.out.frozen (p := ⟨rb, o, none⟩) hrb2 HNR.out
  have cq : w4.cell? ⟨rb, 13, none⟩ = some (.slice po h.mh.length co) := (hc4 13).trans ((HR2.out.cell 13 rfl).trans (by rw [HVO.out]))
  have fq : w4.frozen? ⟨rb, 13, none⟩ = false := (hz4 13).trans (HR2.out.fz 13 (by omega))
  have HCE := Lib.hid (And.intro hc4 hz4)
  obtain ⟨p4, c4, hv4⟩ := owns_slice hown4
  have HV4 := Lib.hid hv4
  subst hv4
  clear hown4 hgr4 hat4 hlow hrow hne hc4 hz4
  refine HKK.out _ _ ⟨⟨_, HF4.out⟩, rfl⟩ ?_
  clear HKK inv hS
  intro hS inv
  (try simp only [Act.put]); (try simp only [List.setIfInBounds_toArray]); (try simp only [List.set_cons_succ]); (try simp only [List.set_cons_zero])
  refine sink_one (i := 9) (by kernel_rfl) rfl (by omega) inv (fun K hK => ?_)
  have HKK := Lib.hid hK
  clear hK
  go_simp
  refine HKK.out _ _ ⟨⟨_, HF4.out⟩, rfl⟩ ?_
  clear HKK inv
  intro hS inv
  (try simp only [Act.put]); (try simp only [List.setIfInBounds_toArray]); (try simp only [List.set_cons_succ]); (try simp only [List.set_cons_zero])
  refine sink_one (i := 10) (by kernel_rfl) rfl (by omega) inv (fun K hK => ?_)
  have HKK := Lib.hid hK
  clear hK
  go_simp
  refine HKK.out _ _ ⟨⟨_, HF4.out⟩, rfl⟩ ?_
  clear HKK inv
  intro hS inv
  (try simp only [Act.put]); (try simp only [List.setIfInBounds_toArray]); (try simp only [List.set_cons_succ]); (try simp only [List.set_cons_zero])
  refine sink_one (i := 11) (by kernel_rfl) rfl (by omega) inv (fun K hK => ?_)
  have HKK := Lib.hid hK
  clear hK
  go_simp
  refine HKK.out _ _ ⟨⟨_, HF4.out⟩, rfl⟩ ?_
  clear HKK inv
  intro hS inv
  (try simp only [Act.put]); (try simp only [List.setIfInBounds_toArray]); (try simp only [List.set_cons_succ]); (try simp only [List.set_cons_zero])
  refine sink_last (by kernel_rfl) rfl (by kernel_rfl) (fun K hK => ?_)
  have HKK := Lib.hid hK
  clear hK
  go_simp
  refine HKK.out _ _ ⟨rfl, ?_⟩
  clear HKK inv hS
  clear r0 r1 r2 r3 r4 r5 r6 r7 r8 r9 r10 r11 r12 r13 q13 cq fq
  go_wp2
  go_end0
  have hFA : Fr (fun k => k = rb ∨ h.ov.ownBlock = some k) w (w4.setCell ⟨rb, 13, none⟩ (.slice p4 (h.mh.length + 1) c4)) := Fr.trans (Fr.of_all (S := fun k => k = rb ∨ h.ov.ownBlock = some k) HBW2.out) (Fr.trans (HF4.out.mono (T := fun k => k = rb ∨ h.ov.ownBlock = some k) (fun _ _ e => .inr e)) (fr_core w4 rb 13 _) (fun i hi _ => .inl hi)) (fun i hi _ => hi)
  refine ⟨rfl, _, HH.out.told m (.slice p0 m.en.length c0) (.slice p4 (h.mh.length + 1) c4) hFA ?_ ?_ HROW.out HLOW.out HEV.out HN.out, hFA, HLOW.out⟩
  · intro j u hu
    by_cases hj : j = 13
    · subst hj
      injection hu with hu
      rw [← hu]
      exact cell_set_same _ _ _ _ ((HCE.out.1 13).trans (HR2.out.cell 13 rfl))
    · rw [World.cell?_setCell_other _ _ _ _ (by intro e; injection e with _ e _; omega), HCE.out.1 j]
      refine HR2.out.cell j ?_
      rw [← hu]
      have hj17 : j < 17 := (List.getElem?_eq_some_iff.1 hu).1
      match j, hj with
      | 0, _ => rfl
      | 1, _ => rfl
      | 2, _ => rfl
      | 3, _ => rfl
      | 4, _ => rfl
      | 5, _ => rfl
      | 6, _ => rfl
      | 7, _ => rfl
      | 8, _ => rfl
      | 9, _ => rfl
      | 10, _ => rfl
      | 11, _ => rfl
      | 12, _ => rfl
      | 14, _ => rfl
      | 15, _ => rfl
      | 16, _ => rfl
      | j + 17, _ => omega
  · intro j hj
    rw [frozen_set, HCE.out.2 j]
    exact HR2.out.fz j hj
end
end RF
end Go.Proofs.YtaodldagmmephaaGreat

/- raft: down, add. -/
namespace Go.Proofs.YtaodldagmmephaaGreat
open Go.RowKit Go.Maps
namespace RF
section
variable {rb base : Nat} {s : RS} {h : Hd} {w : World} {M : Int} {N : Nat}

set_option maxHeartbeats 2000000 in
set_option maxRecDepth 100000 in
theorem rf_down (t : Int) (H : Rf rb base s h w) : Calls Tryz.prog 55 #[.pointer (some ⟨rb, 0, none⟩), .int .i64 t] w fun e w' => e = .returned (.tuple #[]) ∧ Rf rb base (s.down t) h w' ∧ Fr (fun k => k = rb) w w' := by
  have c1 : w.cell? ⟨rb, 1, none⟩ = some (.int .i64 s.role) := H.cell 1 rfl
  have f1 : w.frozen? ⟨rb, 1, none⟩ = false := H.fz 1 (by omega)
  have c2 : w.cell? ⟨rb, 2, none⟩ = some (.int .i64 s.lead) := H.cell 2 rfl
  have f2 : w.frozen? ⟨rb, 2, none⟩ = false := H.fz 2 (by omega)
  have c3 : w.cell? ⟨rb, 3, none⟩ = some (.int .i64 s.term) := H.cell 3 rfl
  have f3 : w.frozen? ⟨rb, 3, none⟩ = false := H.fz 3 (by omega)
  have c4 : w.cell? ⟨rb, 4, none⟩ = some (.int .i64 s.vote) := H.cell 4 rfl
  have f4 : w.frozen? ⟨rb, 4, none⟩ = false := H.fz 4 (by omega)
  have c14 : w.cell? ⟨rb, 14, none⟩ = some (.bool s.out.hd) := H.cell 14 rfl
  have f14 : w.frozen? ⟨rb, 14, none⟩ = false := H.fz 14 (by omega)
  have h1 := H.put { s with role := 0 } 1 (.int .i64 0) (by omega) rfl (same_refl s)
  have h2 := h1.put { s with role := 0, lead := 0 } 2 (.int .i64 0) (by omega) rfl (same_refl s)
  have h3 := h2.put { s with role := 0, lead := 0, term := t } 3 (.int .i64 t) (by omega) rfl (same_refl s)
  have h4 := h3.put { s with role := 0, lead := 0, term := t, vote := 0 } 4 (.int .i64 0) (by omega) rfl (same_refl s)
  have h5 := h4.put { s with role := 0, lead := 0, term := t, vote := 0, out := { s.out with hd := true } } 14 (.bool true) (by omega) rfl (same_refl s)
  have HA := Lib.hid h2
  have HB := Lib.hid h5
  unfold RS.down
  by_cases ht : s.term < t
  · have d1 : decide (s.term < t) = true := decide_eq_true ht
    rw [if_pos ht]
    generalize s.term = x at *
    clear H h1 h2 h3 h4 h5 ht
    go_enter Tryz.func55, Tryz.ntmps55
    go_wp2
    go_end0
    exact ⟨rfl, HB.out, fr_core2 (fr_core2 (fr_core2 (fr_core2 (fr_core _ _ _ _) _ _) _ _) _ _) _ _⟩
  · have d1 : decide (s.term < t) = false := decide_eq_false ht
    rw [if_neg ht]
    generalize s.term = x at *
    clear H h1 h2 h3 h4 h5 ht
    go_enter Tryz.func55, Tryz.ntmps55
    go_wp2
    go_end0
    exact ⟨rfl, HA.out, fr_core2 (fr_core _ _ _ _) _ _⟩

/-- The log grows. -/
theorem Rf.logged (H : Rf rb base s h w) {b t : Int} {l : List En} {lv : Value} {w' : World} (hl : Lg h.xb base b t lv l w') (hF : Fr (lgF h.xb h.lv) w w') (hv : lv.ownBlock = h.lv.ownBlock ∨ ∀ g, lv.ownBlock = some g → w.heap.size ≤ g) :
    Rf rb base { s with b := b, t := t, l := l } { h with lv := lv } w' ∧ PS rb h { h with lv := lv } w w' := by
  refine ⟨H.upd (fun p => p = .log) (fun p k => p = .log ∧ w.heap.size ≤ k) hF (fun k hk p hp => H.dis p .log k hp hk) ?_ ?_ ?_ ?_, hF.mono (fun _ _ hk => ⟨.log, hk⟩), ?_⟩
  · rintro p rfl; exact hl
  · intro p hp hh
    cases p with
    | log => exact absurd rfl hp
    | core => exact hh
    | snap => exact hh
    | map => exact hh
    | peers => exact hh
    | votes => exact hh
    | msgs => exact hh
    | ents => exact hh
    | need => exact hh
  · intro p k hk
    cases p with
    | log =>
      rcases hk with e | e
      · exact .inl (.inl e)
      · rcases hv with e2 | e2
        · exact .inl (.inr (e2.symm.trans e))
        · exact .inr ⟨⟨rfl, e2 k e⟩, fun q hq => by have := (part_lt (H.all q) k hq).2; have := e2 k e; omega⟩
    | core => exact .inl hk
    | snap => exact .inl hk
    | map => exact .inl hk
    | peers => exact .inl hk
    | votes => exact .inl hk
    | msgs => exact .inl hk
    | ents => exact .inl hk
    | need => exact .inl hk
  · rintro p q k ⟨rfl, _⟩ ⟨rfl, _⟩; rfl
  · intro p k hk
    cases p with
    | log =>
      rcases hk with e | e
      · exact .inl (.inl e)
      · rcases hv with e2 | e2
        · exact .inl (.inr (e2.symm.trans e))
        · exact .inr (e2 k e)
    | core => exact .inl hk
    | snap => exact .inl hk
    | map => exact .inl hk
    | peers => exact .inl hk
    | votes => exact .inl hk
    | msgs => exact .inl hk
    | ents => exact .inl hk
    | need => exact .inl hk

set_option maxHeartbeats 2000000 in
set_option maxRecDepth 100000 in
theorem rf_add (kd : Int) (da : ByteArray) (H : Rf rb base s h w) (B : RB M N s) (hN : N < 10000) (hda : da.size ≤ 2000000) : Calls Tryz.prog 63 #[.pointer (some ⟨rb, 0, none⟩), .int .i64 kd, .string da] w fun e w' => e = .returned (.int .i64 (s.last + 1)) ∧ ∃ h', Rf rb base (s.add kd da) h' w' ∧ PS rb h h' w w' ∧ h'.mh = h.mh := by
  have hlo := (newOk_parts B.log).1
  have hla := B.lastE
  have htop := B.top
  have hbig := B.big
  have hfew := B.few
  have HADD : Hid (∀ W, Below w.heap.size w W → Calls Tryz.prog 106 #[.pointer (some ⟨h.xb, 0, none⟩), .int .i64 s.term, .int .i64 kd, .string da] W fun e w' => e = .returned (.int .i64 (s.last + 1)) ∧ ∃ v', Lg h.xb base s.b s.t v' (s.l ++ [⟨s.last + 1, s.term, kd, da⟩]) w' ∧ Fr (lgF h.xb h.lv) W w' ∧ (v'.ownBlock = h.lv.ownBlock ∨ ∀ g, v'.ownBlock = some g → W.heap.size ≤ g)) := Lib.hid (fun W (hW : Below w.heap.size w W) => lg_add s.term kd da ((H.below hW).all .log) hda (show 0 ≤ s.last by omega) (show s.last ≤ _ by omega) (by omega))
  have HNL : Hid (¬ lgF h.xb h.lv rb) := Lib.hid (fun e => by have := H.dis .log .core rb e rfl; cases this)
  have q3 : ∀ q : KeptF (lgF h.xb h.lv) w, q.1.cell? ⟨rb, 3, none⟩ = some (.int .i64 s.term) := fun q => (q.2.cell (p := ⟨rb, 3, none⟩) H.rlt HNL.out).trans (H.cell 3 rfl)
  have q10 : ∀ q : KeptF (lgF h.xb h.lv) w, q.1.cell? ⟨rb, 10, none⟩ = some (.pointer (some ⟨h.xb, 0, none⟩)) := fun q => (q.2.cell (p := ⟨rb, 10, none⟩) H.rlt HNL.out).trans (H.cell 10 rfl)
  have HH := Lib.hid H
  clear H B hlo hla htop hbig hfew
  go_enter Tryz.func63, Tryz.ntmps63
  go_wp2_with fail
  refine Mix.region_mix (n := 11) (m := 2) (fun V => ∃ q : KeptF (lgF h.xb h.lv) w, V = q.1) [0, 1, 2, 3, 4, 5, 6, 7, 8, 9] (by kernel_rfl) rfl rfl (by kernel_rfl) (by kernel_rfl) ⟨⟨_, (Fr.refl _ _).drew⟩, rfl⟩ ?_
  repeat (refine Mix.picks_step rfl ?_; go_big_quiet_step (fail))
  refine Mix.picks_nil ?_
  intro inv
  refine sink_one (i := 10) (by kernel_rfl) rfl (by omega) inv (fun K hK => ?_)
  have HKK := Lib.hid hK
  clear hK
  go_simp
  with_reducible refine (HADD.out _ (Below.refl _ _).drew).mono ?_
  rintro e w2 ⟨rfl, v2, hl2, hf2, hv2⟩
  have hf3 : Fr (lgF h.xb h.lv) w w2 := Fr.trans (Fr.refl _ w).drew hf2 (fun i hi _ => hi)
  have HF2 := Lib.hid hf3
  have h2 := (HH.out.logged hl2 hf3 hv2)
  have HR2 : Hid (Rf rb base (s.put ⟨s.last + 1, s.term, kd, da⟩) { h with lv := v2 } w2) := Lib.hid h2.1
  have HP2 := Lib.hid h2.2
  clear hl2 hf2 hv2 hf3 h2
  refine HKK.out _ _ ⟨⟨_, HF2.out⟩, rfl⟩ ?_
  clear HKK inv
  intro hS inv
  (try simp only [Act.put]); (try simp only [List.setIfInBounds_toArray]); (try simp only [List.set_cons_succ]); (try simp only [List.set_cons_zero])
  refine sink_last (by kernel_rfl) rfl (by kernel_rfl) (fun K hK => ?_)
  have HKK := Lib.hid hK
  clear hK
  go_simp
  refine HKK.out _ _ ⟨rfl, ?_⟩
  clear HKK inv hS
  clear q3 q10
  have HCH := Lib.hid (rf_changed (s.last + 1) HR2.out)
  go_wp2_with fail
  with_reducible refine (HCH.out).mono ?_
  rintro e w3 ⟨rfl, hr3, hf3⟩
  have HR3 := Lib.hid hr3
  have HP3 := Lib.hid (HP2.out.trans (PS.core hf3))
  clear hr3 hf3 HCH
  go_wp2
  go_ret
  exact ⟨rfl, _, HR3.out, HP3.out, rfl⟩
end
end RF
end Go.Proofs.YtaodldagmmephaaGreat

/- raft: what is known of a peer. -/
namespace Go.Proofs.YtaodldagmmephaaGreat
open Go.RowKit Go.Maps
namespace RF
theorem id_wf {x : Int} (h1 : -9223372036854775808 ≤ x) (h2 : x ≤ 9223372036854775807) : (Lit.int .i64 x).wf = true := by
  have e := wrap64_wf x
  rwa [show wrap64 x = x by unfold wrap64; omega] at e
section
variable {rb base : Nat} {s : RS} {h : Hd} {w : World} {M : Int} {N : Nat}
theorem pget_some {ph : List (Int × Pr × Nat)} {id : Int} {p : Pr} (hp : pget (ph.map fun x => (x.1, x.2.1)) id = some p) : ∃ pb, (id, p, pb) ∈ ph := by
  unfold pget at hp
  rw [List.find?_map, Option.map_map, Option.map_eq_some_iff] at hp
  obtain ⟨x, hx, rfl⟩ := hp
  have h1 := List.mem_of_find?_eq_some hx
  have h2 := List.find?_some hx
  have h3 : x.1 = id := by simpa using h2
  refine ⟨x.2.2, ?_⟩
  rw [← h3]
  exact h1
theorem pget_none {ps : List (Int × Pr)} {id : Int} : pget ps id = none ↔ ∀ x ∈ ps, x.1 ≠ id := by
  unfold pget
  rw [Option.map_eq_none_iff, List.find?_eq_none]
  simp
theorem pget_mem {ps : List (Int × Pr)} (hn : (ps.map (·.1)).Nodup) {id : Int} {p : Pr} (hx : (id, p) ∈ ps) : pget ps id = some p := by
  induction ps with
  | nil => cases hx
  | cons y ps ih =>
    rw [List.map_cons, List.nodup_cons] at hn
    unfold pget
    rw [List.find?_cons]
    by_cases e : y.1 = id
    · have : (y.1 == id) = true := by simp [e]
      rw [this]
      rcases List.mem_cons.1 hx with e2 | h2
      · rw [← e2]; rfl
      · exact absurd (List.mem_map.2 ⟨_, h2, rfl⟩) (by rw [← e] at h2 ⊢; exact hn.1)
    · have : (y.1 == id) = false := by simp [e]
      rw [this]
      rcases List.mem_cons.1 hx with e2 | h2
      · rw [← e2] at e; exact absurd rfl e
      · exact ih hn.2 h2
theorem pget_cons (id : Int) (p : Pr) (ps : List (Int × Pr)) : pget ((id, p) :: ps) id = some p := by simp [pget]

theorem Rf.psE (H : Rf rb base s h w) : h.ph.map (fun x => (x.1, x.2.1)) = s.ps := (H.all .peers).2.1
theorem Rf.keysE (H : Rf rb base s h w) : (ptrs h.ph).map (·.1) = s.ps.map (·.1) := by
  rw [← H.psE]
  unfold ptrs
  rw [List.map_map, List.map_map]
  rfl

set_option maxRecDepth 100000 in
/-- A look into the map of the peers. -/
theorem ptr_look (H : Rf rb base s h w) (id : Int) (hid : (Lit.int .i64 id).wf = true) :
    (∃ p pb, pget s.ps id = some p ∧ (id, p, pb) ∈ h.ph ∧ (Instr.lookup 87 (.map (some h.mb)) (.int .i64 id) false).run Tryz.prog w = .ok (.pointer (some ⟨pb, 0, none⟩)) w) ∨
    (pget s.ps id = none ∧ (Instr.lookup 87 (.map (some h.mb)) (.int .i64 id) false).run Tryz.prog w = .ok (.pointer none) w) := by
  obtain ⟨⟨D, ho, hR⟩, _⟩ := H.all .map
  obtain ⟨v, ps, hrun, hv⟩ := ho.lookup keyedI Tryz.underlying87 (show (zeroValue 121).run Tryz.prog w = .ok (.pointer none) w from rfl) (show heldR (.pointer none) = some (.held (.pointer none), []) from rfl) (key_of hid)
  have hv2 : DataW.held v = D.atKey (.int .i64 id) (.held (.pointer none)) := by
    unfold heldR at hv
    injection hv with hv
    injection hv
  cases hp : pget s.ps id with
  | some p =>
    rw [← H.psE] at hp
    obtain ⟨pb, hx⟩ := pget_some hp
    refine .inl ⟨p, pb, rfl, hx, ?_⟩
    rw [hR.val id (.pointer (some ⟨pb, 0, none⟩)) _ (List.mem_map.2 ⟨(id, p, pb), hx, rfl⟩)] at hv2
    injection hv2 with hv2
    rw [← hv2]
    exact hrun
  | none =>
    refine .inr ⟨rfl, ?_⟩
    have hno : has D (.int .i64 id) = false := by
      rw [hR.set.mem id, H.keysE]
      rw [decide_eq_false]
      intro hm
      obtain ⟨x, hx, e⟩ := List.mem_map.1 hm
      exact pget_none.1 hp x hx e
    rw [atKey_of_not_has hno] at hv2
    injection hv2 with hv2
    rw [← hv2]
    exact hrun

/-- A new peer is stored. -/
theorem ptr_store (H : Rf rb base s h w) (id : Int) (hid : (Lit.int .i64 id).wf = true) (p : Pr) (pb : Nat) (hb : boxPr (id, p, pb) w) (hlo : base ≤ pb) (hnew : ∀ q, ¬ part rb h q pb) (hno : pget s.ps id = none) (hn : s.ps.length < 100000) :
    ∃ w', (Instr.mapUpdate 87 (.map (some h.mb)) (.int .i64 id) (.pointer (some ⟨pb, 0, none⟩))).run Tryz.prog w = .ok () w' ∧ Rf rb base { s with ps := (id, p) :: s.ps } { h with ph := (id, p, pb) :: h.ph } w' ∧ Fr (fun k => k = h.mb) w w' := by
  obtain ⟨⟨D, ho, hR⟩, hbm⟩ := H.all .map
  have hlen : h.ph.length = s.ps.length := by rw [← H.psE, List.length_map]
  obtain ⟨w1, hup, ho1, ht1⟩ := ho.store keyedI Tryz.underlying87 (by unfold maxLen; omega) (key_of hid) (show heldR (.pointer (some ⟨pb, 0, none⟩)) = some (.held (.pointer (some ⟨pb, 0, none⟩)), []) from rfl)
  have hF := fr_turn ht1
  have hrid : ridA id (ptrs h.ph) = ptrs h.ph := by
    unfold ridA
    rw [List.filter_eq_self]
    intro x hx
    have : x.1 ≠ id := fun e => by
      have h1 : x.1 ∈ (ptrs h.ph).map (·.1) := List.mem_map.2 ⟨x, hx, rfl⟩
      rw [H.keysE] at h1
      obtain ⟨y, hy, e2⟩ := List.mem_map.1 h1
      exact pget_none.1 hno y hy (e2.trans e)
    simp [this]
  have hmk : ∀ k, k = h.mb → ∀ q, part rb h q k → q = .map := fun k e q hq => H.dis q .map k hq e
  refine ⟨w1, hup, ?_, hF⟩
  refine H.upd (fun q => q = .map ∨ q = .peers) (fun q k => q = .peers ∧ k = pb) hF (fun k hk q hq => .inl (hmk k hk q hq)) ?_ ?_ ?_ ?_
  · rintro q (rfl | rfl)
    · refine ⟨⟨_, ho1, ?_⟩, hbm⟩
      have h2 := hR.put id (.pointer (some ⟨pb, 0, none⟩))
      rw [hrid] at h2
      exact h2
    · have hP := H.all .peers
      have hne : pb ≠ h.mb := fun e => hnew .map e
      have keepB : ∀ x : Int × Pr × Nat, boxPr x w → x.2.2 ≠ h.mb → boxPr x w1 := fun x hx hm => by
        obtain ⟨a, b, c, d⟩ := hx
        have hlt := cell_lt a
        exact ⟨(hF.cell (p := ⟨x.2.2, 0, none⟩) hlt hm).trans a, (hF.cell (p := ⟨x.2.2, 1, none⟩) hlt hm).trans b, (hF.cell (p := ⟨x.2.2, 2, none⟩) hlt hm).trans c, fun k hk => (hF.frozen (p := ⟨x.2.2, k, none⟩) hlt hm).trans (d k hk)⟩
      refine ⟨fun x hx => ?_, ?_, ?_⟩
      · rcases List.mem_cons.1 hx with rfl | hx
        · exact ⟨keepB _ hb hne, hlo⟩
        · exact ⟨keepB x (hP.1 x hx).1 (fun e => by have := H.dis .peers .map _ ⟨x, hx, rfl⟩ e; cases this), (hP.1 x hx).2⟩
      · show (id, p) :: h.ph.map (fun x => (x.1, x.2.1)) = (id, p) :: s.ps
        rw [hP.2.1]
      · refine List.nodup_cons.2 ⟨fun hm => ?_, hP.2.2⟩
        obtain ⟨x, hx, e⟩ := List.mem_map.1 hm
        exact hnew .peers ⟨x, hx, e⟩
  · intro q hq hh
    cases q with
    | map => exact absurd (.inl rfl) hq
    | peers => exact absurd (.inr rfl) hq
    | core => exact hh
    | log => exact hh
    | snap => exact hh
    | votes => exact hh
    | msgs => exact hh
    | ents => exact hh
    | need => exact hh
  · intro q k hk
    cases q with
    | peers =>
      obtain ⟨x, hx, e⟩ := hk
      rcases List.mem_cons.1 hx with rfl | hx
      · exact .inr ⟨⟨rfl, e.symm⟩, fun q hq => hnew q (by have e : pb = k := e; rw [e]; exact hq)⟩
      · exact .inl ⟨x, hx, e⟩
    | map => exact .inl hk
    | core => exact .inl hk
    | log => exact .inl hk
    | snap => exact .inl hk
    | votes => exact .inl hk
    | msgs => exact .inl hk
    | ents => exact .inl hk
    | need => exact .inl hk
  · rintro q r k ⟨rfl, _⟩ ⟨rfl, _⟩; rfl
end
end RF
end Go.Proofs.YtaodldagmmephaaGreat

/- raft: peer. -/
namespace Go.Proofs.YtaodldagmmephaaGreat
open Go.RowKit Go.Maps
namespace RF
section
variable {rb base : Nat} {s : RS} {h : Hd} {w : World} {M : Int} {N : Nat}
theorem RB.kn (B : RB M N s) : s.ps.length ≤ 64 := by
  have h1 := B.nd
  have h2 : ∀ x ∈ s.ps.map (·.1), 1 ≤ x ∧ x ≤ 64 := fun x hx => by
    obtain ⟨y, hy, rfl⟩ := List.mem_map.1 hx
    exact (B.ps y hy).1
  have h3 : s.ps.length = (s.ps.map (·.1)).length := by rw [List.length_map]
  rw [h3]
  generalize s.ps.map (·.1) = L at *
  have h4 : L.Nodup → (∀ x ∈ L, 1 ≤ x ∧ x ≤ 64) → L.length ≤ 64 := fun hn hb => by
    have h5 : (L.map Int.toNat).Nodup := by
      refine List.Pairwise.map _ ?_ (List.Pairwise.and_mem.1 hn)
      rintro a b ⟨ha, hb', hab⟩ e
      have := hb a ha
      have := hb b hb'
      omega
    have h6 : (L.map Int.toNat) ⊆ (List.range 65).tail := fun k hk => by
      obtain ⟨y, hy, rfl⟩ := List.mem_map.1 hk
      have := hb y hy
      rw [List.tail_range]
      rw [List.mem_range'_1]
      omega
    have h7 := h5.length_le_of_subset h6
    simpa using h7
  exact h4 h1 h2
theorem know_pr (s : RS) (id : Int) : pget (s.know id).ps id = some ((s.know id).pr id) := by
  unfold RS.pr RS.know
  cases hp : pget s.ps id with
  | some p => simp [hp]
  | none => simp [pget_cons]

/-- Messages stay as they are, peers stay where they are. -/
structure Hd.Ext (h h' : Hd) : Prop where
  mh : h'.mh = h.mh
  ph : ∀ x ∈ h.ph, x ∈ h'.ph
theorem Hd.Ext.refl (h : Hd) : Hd.Ext h h := ⟨rfl, fun _ hx => hx⟩
theorem Hd.Ext.trans {h h1 h2 : Hd} (b : Hd.Ext h1 h2) (a : Hd.Ext h h1) : Hd.Ext h h2 := ⟨b.mh.trans a.mh, fun x hx => b.ph x (a.ph x hx)⟩
set_option maxHeartbeats 2000000 in
set_option maxRecDepth 100000 in
theorem rf_peer (id : Int) (H : Rf rb base s h w) (B : RB M N s) (h1 : 1 ≤ id) (h2 : id ≤ 64) : Calls Tryz.prog 85 #[.pointer (some ⟨rb, 0, none⟩), .int .i64 id] w fun e w' => ∃ pb, e = .returned (.pointer (some ⟨pb, 0, none⟩)) ∧ ∃ h', Rf rb base (s.know id) h' w' ∧ (id, (s.know id).pr id, pb) ∈ h'.ph ∧ PS rb h h' w w' ∧ Hd.Ext h h' := by
  have hid := id_wf (x := id) (by omega) (by omega)
  have c11 := H.cell 11 rfl
  rcases ptr_look H id hid with ⟨p, pb, hp, hx, hrun⟩ | ⟨hp, hrun⟩
  · have hk : s.know id = s := by unfold RS.know; rw [hp]
    have hpr : s.pr id = p := by unfold RS.pr; rw [hp]; rfl
    rw [hk, hpr]
    have HE := Lib.hid (And.intro H hx)
    clear H B hp hx hk hpr
    go_enter Tryz.func85, Tryz.ntmps85
    go_wp2
    go_ret
    exact ⟨_, rfl, _, HE.out.1, HE.out.2, PS.refl _ _, Hd.Ext.refl _⟩
  · have hk : s.know id = { s with ps := (id, ⟨s.last + 1, 0, 0⟩) :: s.ps } := by unfold RS.know; rw [hp]
    have hpr : RS.pr { s with ps := (id, ⟨s.last + 1, 0, 0⟩) :: s.ps } id = ⟨s.last + 1, 0, 0⟩ := by unfold RS.pr; rw [pget_cons]; rfl
    rw [hk, hpr]
    have HL := Lib.hid (rf_last H)
    have HH := Lib.hid H
    have hla := B.lastE
    have htop := B.top
    have hbig := B.big
    have hlo := (newOk_parts B.log).1
    have hkn := B.kn
    have hw1 : IntKind.i64.wrap (s.last + 1) = s.last + 1 := IntWalk.i64_in _ (by omega)
    have HST := Lib.hid (fun (h0 : Hd) W pb (HW : Rf rb base s h0 W) hb hlo2 hnew => ptr_store HW id hid ⟨s.last + 1, 0, 0⟩ pb hb hlo2 hnew hp (by omega))
    have HBS := Lib.hid H.bs
    clear H B hp hk hpr hla htop hbig hlo hkn
    generalize s.last = la at *
    go_enter Tryz.func85, Tryz.ntmps85
    go_wp2_with fail
    with_reducible refine (HL.out).mono ?_
    rintro e w1 ⟨rfl, hb1⟩
    have hc := heap_alloc_new w1 (.cells #[.int .i64 (la + 1), .int .i64 0, .int .i64 0] 123)
    have hb2 : Below w.heap.size w (w1.alloc (.cells #[.int .i64 (la + 1), .int .i64 0, .int .i64 0] 123)) := hb1.alloc hb1.size _
    have hbx : boxPr (id, ⟨la + 1, 0, 0⟩, w1.heap.size) (w1.alloc (.cells #[.int .i64 (la + 1), .int .i64 0, .int .i64 0] 123)) := by
      have cc : ∀ k u, (#[Value.int .i64 (la + 1), .int .i64 0, .int .i64 0])[k]? = some u → (w1.alloc (.cells #[.int .i64 (la + 1), .int .i64 0, .int .i64 0] 123)).cell? ⟨w1.heap.size, k, none⟩ = some u := fun k u hu => by
        rw [cell_of_row _ _ _ _ _ _ hc]; exact hu
      exact ⟨cc 0 _ rfl, cc 1 _ rfl, cc 2 _ rfl, fun k _ => frozen_of_row _ _ _ _ _ hc⟩
    have HR2 := HH.out.below hb2
    have hsz := hb1.size
    obtain ⟨w2, hup, hr2, hf2⟩ := HST.out h _ w1.heap.size HR2 hbx (by have := HBS.out; omega) (fun q hq => by have := (part_lt (HH.out.all q) _ hq).2; omega)
    have d11 : (w1.alloc (.cells #[.int .i64 (la + 1), .int .i64 0, .int .i64 0] 123)).cell? ⟨rb, 11, none⟩ = some (.map (some h.mb)) := HR2.cell 11 rfl
    have HE := Lib.hid hr2
    have HPS : Hid (PS rb h { h with ph := (id, ⟨la + 1, 0, 0⟩, w1.heap.size) :: h.ph } w w2) := Lib.hid (by
      refine ⟨Fr.trans (Fr.of_all (S := Fo rb h) hb2) (hf2.mono (T := Fo rb h) (fun _ _ e => ⟨.map, e⟩)) (fun i hi _ => hi), fun q k hk => ?_⟩
      cases q with
      | peers =>
        obtain ⟨x, hx, e⟩ := hk
        rcases List.mem_cons.1 hx with rfl | hx
        · exact .inr (by have e : w1.heap.size = k := e; omega)
        · exact .inl ⟨x, hx, e⟩
      | map => exact .inl hk
      | core => exact .inl hk
      | log => exact .inl hk
      | snap => exact .inl hk
      | votes => exact .inl hk
      | msgs => exact .inl hk
      | ents => exact .inl hk
      | need => exact .inl hk)
    have HB2 := Lib.hid hb2
    clear hc hbx HR2 hr2 hf2 hb1 hb2 HL HST c11 hrun hsz
    go_wp2
    go_ret
    exact ⟨_, rfl, _, HE.out, List.mem_cons_self, HPS.out, ⟨rfl, fun _ hx => List.mem_cons_of_mem _ hx⟩⟩
end
end RF
end Go.Proofs.YtaodldagmmephaaGreat

/- raft: send. -/
namespace Go.Proofs.YtaodldagmmephaaGreat
open Go.RowKit Go.Maps
namespace RF
section
variable {rb base : Nat} {s : RS} {h : Hd} {w : World} {M : Int} {N : Nat}
theorem RB.know (B : RB M N s) {id : Int} (h1 : 1 ≤ id) (h2 : id ≤ 64) : RB M N (s.know id) := by
  unfold RS.know
  cases hp : pget s.ps id with
  | some p => exact B
  | none =>
    have h3 := B.lastE
    have h4 := (newOk_parts B.log).1
    have h5 := B.top
    refine ⟨B.id, B.log, B.top, B.big, B.few, B.low, B.da, B.snap, ?_, ?_, B.term, B.round, B.commit, B.ltm⟩
    · intro x hx
      rcases List.mem_cons.1 hx with rfl | hx
      · have := (newOk_parts B.log).1
        have : 0 ≤ s.last := by omega
        exact ⟨⟨h1, h2⟩, ⟨by show 1 ≤ s.last + 1; omega, by show s.last + 1 ≤ M + 1; omega⟩, ⟨by show (0 : Int) ≤ 0; omega, by show (0 : Int) ≤ M; omega⟩, ⟨by show (0 : Int) ≤ 0; omega, by show (0 : Int) ≤ _; omega⟩⟩
      · exact B.ps x hx
    · refine List.nodup_cons.2 ⟨fun hm => ?_, B.nd⟩
      obtain ⟨x, hx, e⟩ := List.mem_map.1 hm
      exact pget_none.1 hp x hx e

/-- One more lacks a state. -/
theorem Rf.needed (H : Rf rb base s h w) (id : Int) (nv : Value) {w' : World} (hF : Fr (fun k => k = rb ∨ h.nv.ownBlock = some k) w w') (hc : ∀ j u, (cells (s.needs id) { h with nv := nv })[j]? = some u → w'.cell? ⟨rb, j, none⟩ = some u) (hz : ∀ j, j < 17 → w'.frozen? ⟨rb, j, none⟩ = false)
    (ho : w'.ownsRow base 3 1 nv (s.out.nd.length + 1) (rowOf ncells (s.out.nd ++ [id]))) (hl : nv.ownBlock = h.nv.ownBlock ∨ ∀ k, nv.ownBlock = some k → w.heap.size ≤ k) :
    Rf rb base (s.needs id) { h with nv := nv } w' ∧ PS rb h { h with nv := nv } w w' := by
  refine ⟨H.upd (fun p => p = .core ∨ p = .need) (fun p k => p = .need ∧ w.heap.size ≤ k) hF ?_ ?_ ?_ ?_ ?_, hF.mono ?_, ?_⟩
  · rintro k (rfl | hk) p hp
    · exact .inl (H.dis p .core k hp rfl)
    · exact .inr (H.dis p .need k hp hk)
  · rintro p (rfl | rfl)
    · exact ⟨hc, hz, (H.all .core).2.2⟩
    · show World.ownsRow w' base 3 1 nv (s.out.nd ++ [id]).length _
      rw [List.length_append]
      exact ho
  · intro p hp hh
    cases p with
    | core => exact absurd (.inl rfl) hp
    | need => exact absurd (.inr rfl) hp
    | log => exact hh
    | snap => exact hh
    | map => exact hh
    | peers => exact hh
    | votes => exact hh
    | msgs => exact hh
    | ents => exact hh
  · intro p k hk
    cases p with
    | need =>
      rcases hl with e | e
      · exact .inl (e.symm.trans hk)
      · exact .inr ⟨⟨rfl, e k hk⟩, fun q hq => by have := (part_lt (H.all q) k hq).2; have := e k hk; omega⟩
    | core => exact .inl hk
    | log => exact .inl hk
    | snap => exact .inl hk
    | map => exact .inl hk
    | peers => exact .inl hk
    | votes => exact .inl hk
    | msgs => exact .inl hk
    | ents => exact .inl hk
  · rintro p q k ⟨rfl, _⟩ ⟨rfl, _⟩; rfl
  · rintro i _ (e | e)
    · exact ⟨.core, e⟩
    · exact ⟨.need, e⟩
  · intro p k hk
    cases p with
    | need =>
      rcases hl with e | e
      · exact .inl (e.symm.trans hk)
      · exact .inr (e k hk)
    | core => exact .inl hk
    | log => exact .inl hk
    | snap => exact .inl hk
    | map => exact .inl hk
    | peers => exact .inl hk
    | votes => exact .inl hk
    | msgs => exact .inl hk
    | ents => exact .inl hk

/-- say, step by step. -/
theorem rf_say2 (m : Mg) (ev : Value) (H : Rf rb base s h w) (hev : w.ownsRow base 25 4 ev m.en.length (rowOf ecells m.en)) (hn : ∀ k, ev.ownBlock = some k → ∀ q, ¬ part rb h q k) (hms : h.mh.length ≤ 900000) (w0 : World) (h0 : Hd) (hp : PS rb h0 h w0 w) (hw : ∀ k, ev.ownBlock = some k → w0.heap.size ≤ k) :
    Calls Tryz.prog 95 #[.pointer (some ⟨rb, 0, none⟩), mval (m, ev)] w fun e w' => e = .returned (.tuple #[]) ∧ ∃ h', Rf rb base (s.say m) h' w' ∧ PS rb h0 h' w0 w' ∧ h'.mh.length = h.mh.length + 1 := by
  refine (rf_say m ev H hev hn hms).mono ?_
  rintro e w' ⟨rfl, ov, hr, hf, hl⟩
  refine ⟨rfl, _, hr, ⟨Fr.trans hp.1 (hf.mono (T := Fo rb h) (fun i _ e => by rcases e with e | e; exact ⟨.core, e⟩; exact ⟨.msgs, e⟩)) (fun i hi hlt => ?_), fun p k hk => ?_⟩, by simp⟩
  · obtain ⟨p, hp2⟩ := hi
    rcases hp.2 p i hp2 with h9 | h9
    · exact ⟨p, h9⟩
    · omega
  · cases p with
    | msgs =>
      rcases hl with e | e
      · exact hp.2 .msgs k (e.symm.trans hk)
      · exact .inr (Nat.le_trans hp.1.size (e k hk))
    | ents =>
      obtain ⟨x, hx, hk⟩ := hk
      rcases List.mem_append.1 hx with hx | hx
      · exact hp.2 .ents k ⟨x, hx, hk⟩
      · rw [List.mem_singleton] at hx
        subst hx
        exact .inr (hw k hk)
    | core => exact hp.2 .core k hk
    | log => exact hp.2 .log k hk
    | snap => exact hp.2 .snap k hk
    | map => exact hp.2 .map k hk
    | peers => exact hp.2 .peers k hk
    | votes => exact hp.2 .votes k hk
    | need => exact hp.2 .need k hk
end
end RF
end Go.Proofs.YtaodldagmmephaaGreat

