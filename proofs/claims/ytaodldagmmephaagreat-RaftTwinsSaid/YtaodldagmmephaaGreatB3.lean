/- Merged texts: Rf34. -/
import Derived.Test.YtaodldagmmephaaGreatB2
/- raft: Restore. -/
namespace Go.Proofs.YtaodldagmmephaaGreat
open Go.RowKit Go.Maps
namespace RF
section
variable {rb base : Nat} {s : RS} {h : Hd} {w : World} {M : Int} {N : Nat}
/-- The members of the base are written anew. -/
theorem Rf.resnap (H : Rf rb base s h w) {s' : RS} {vv : Value} {w' : World} (hF : Fr (fun k => k = rb) w w') (hc : CBox rb (cells s' { h with sv := vv }) w') (ho : w'.ownsRow base 3 1 vv s'.snap.length (rowOf ncells s'.snap)) (hl : ∀ k, vv.ownBlock = some k → w.heap.size ≤ k)
    (e1 : s'.b = s.b) (e2 : s'.t = s.t) (e3 : s'.l = s.l) (e4 : s'.votes = s.votes) (e5 : s'.ps = s.ps) (e7 : s'.out.ms = s.out.ms) (e8 : s'.out.nd = s.out.nd) : Rf rb base s' { h with sv := vv } w' ∧ PS rb h { h with sv := vv } w w' := by
  refine ⟨H.upd (fun p => p = .core ∨ p = .snap) (fun p k => p = .snap ∧ w.heap.size ≤ k) hF (fun k hk p hp => .inl (H.dis _ _ k hp hk)) ?_ ?_ ?_ ?_, hF.mono (fun _ _ e => ⟨.core, e⟩), ?_⟩
  · rintro p (rfl | rfl)
    · exact ⟨hc.1, hc.2.1, (H.all .core).2.2⟩
    · exact ho
  · intro p hp hh
    cases p with
    | core => exact absurd (.inl rfl) hp
    | snap => exact absurd (.inr rfl) hp
    | log => show Lg h.xb base s'.b s'.t h.lv s'.l w'; rw [e1, e2, e3]; exact hh
    | votes => show World.ownsRow w' base 3 1 h.vv s'.votes.length (rowOf ncells s'.votes); rw [e4]; exact hh
    | map => exact hh
    | peers => exact ⟨hh.1, by rw [e5]; exact hh.2.1, hh.2.2⟩
    | msgs => exact ⟨hh.1, by rw [e7]; exact hh.2⟩
    | ents => exact hh
    | need => show World.ownsRow w' base 3 1 h.nv s'.out.nd.length (rowOf ncells s'.out.nd); rw [e8]; exact hh
  · intro p k hk
    cases p with
    | snap => exact .inr ⟨⟨rfl, hl k hk⟩, fun q hq => by have := (part_lt (H.all q) k hq).2; have := hl k hk; omega⟩
    | core => exact .inl hk
    | log => exact .inl hk
    | votes => exact .inl hk
    | map => exact .inl hk
    | peers => exact .inl hk
    | msgs => exact .inl hk
    | ents => exact .inl hk
    | need => exact .inl hk
  · rintro p q k ⟨rfl, _⟩ ⟨rfl, _⟩; rfl
  · intro p k hk
    cases p with
    | snap => exact .inr (hl k hk)
    | core => exact .inl hk
    | log => exact .inl hk
    | votes => exact .inl hk
    | map => exact .inl hk
    | peers => exact .inl hk
    | msgs => exact .inl hk
    | ents => exact .inl hk
    | need => exact .inl hk
theorem RdI.stay {w w' : World} {B n : Nat} {p : Option Addr} {zs : List Int} {S : Nat → Prop} (h : RdI w B p n zs) (hf : Fr S w w') (hB : B ≤ w.heap.size) (hS : 0 < n → ∀ g o, p = some ⟨g, o, none⟩ → ¬ S g) : RdI w' B p n zs :=
  ⟨h.1, fun hn => by
    obtain ⟨b, o, e, hb, hc⟩ := h.2 hn
    exact ⟨b, o, e, hb, fun k hk => (hf.cell (p := ⟨b, o + k, none⟩) (Nat.lt_of_lt_of_le hb hB) (hS hn b o e)).trans (hc k hk)⟩⟩
theorem results_2c {fn : Func} {u p : Tmp} {t : TypeId} (h : fn.results = #[.tmp u, .cell p t]) (tmps : Array Value) (P : Program) (W : World) (a : Addr) (x : Value) (ha : tmps.getD p undef = .pointer (some a))
    (hx : (loadVar t a).run P W = .ok x W) : (results fn tmps).run P W = .ok (.tuple #[tmps.getD u undef, x]) W := by
  have ha' : tmps[p]?.getD undef = .pointer (some a) := by simpa using ha
  simp only [results, h]
  simp [ha', hx, asAddr, Result.andThen]
theorem valid_is (ms : List Int) {b : Bool} (h : b = true ↔ CL.Valid ms) : b = validB ms := by
  have := valid_iff ms
  cases b <;> cases hv : validB ms
  · rfl
  · exact absurd (h.2 (this.1 hv)) (by decide)
  · exact absurd (this.2 (h.1 rfl)) (by rw [hv]; decide)
  · rfl
theorem valid_call (p : Option Addr) (n c B : Nat) (zs : List Int) (w : World) (h : RdI w B p n zs) :
    Calls Tryz.prog 43 #[.slice p n c] w fun e w' => e = .returned (.bool (validB zs)) ∧ Below w.heap.size w w' := by
  refine (valid_ints p n c B zs w h).mono ?_
  rintro e w' ⟨b, m, rfl, hb, rfl⟩
  rw [valid_is zs hb]
  exact ⟨rfl, ((Fr.refl (fun _ => False) w).drewN m).below (Nat.le_refl _) (fun _ h => h.elim)⟩
theorem comp_some {b t tt : Int} {l : List En} {ix : Int} (hok : newOk b t l = true) (h : compS b t l ix = some tt) : (newOk ix tt (l.drop (ix - b).toNat) = true) ∧ b ≤ ix ∧ ix ≤ b + (l.length : Int) ∧ (lastS ix tt (l.drop (ix - b).toNat)) = lastS b t l := by
  unfold compS at h
  cases ht : termS b t l ix with
  | none => rw [ht] at h; cases h
  | some t2 =>
    rw [ht] at h
    have hle : ix ≤ (lastS b t l).1 := by
      apply Classical.byContradiction
      intro hn
      simp [hn] at h
    have e2 : t2 = tt := by simpa [hle] using h
    subst e2
    obtain ⟨h1, h2, h3⟩ := newOk_parts hok
    obtain ⟨k, hk, hkl⟩ := term_place ht
    have hkk : (ix - b).toNat = k := by omega
    rw [hkk]
    have hl := take_last k hkl h3 (by rw [← hk]; exact ht)
    have hs := (follow_append (l.take k) (l.drop k) b t).1 (by rw [List.take_append_drop]; exact h3)
    have ha := lastS_append (l.take k) (l.drop k) b t
    rw [List.take_append_drop, hl, ← hk] at ha
    rw [hl, ← hk] at hs
    have ht2 : 0 ≤ t2 := by
      have h5 : (lastS b t (l.take k)).2 = t2 := by rw [hl]
      have h6 : ∀ (l : List En) (i t : Int), 0 ≤ t → followB i t l = true → 0 ≤ (lastS i t l).2 := by
        intro l
        induction l with
        | nil => exact fun i t h0 _ => h0
        | cons e l ih =>
          intro i t h0 hf
          unfold followB at hf
          simp only [Bool.and_eq_true, decide_eq_true_eq] at hf
          rw [lastS_cons]
          exact ih _ _ (by omega) hf.2.2
      rw [← h5]
      exact h6 _ _ _ h2 (follow_take k h3)
    refine ⟨?_, by omega, by omega, ha.symm⟩
    unfold newOk
    simp only [Bool.and_eq_true, decide_eq_true_eq]
    exact ⟨by omega, ht2, hs.2⟩
/-- A snapshot is taken: bounds. -/
theorem RB.rest (B : RB M N s) {ix tm : Int} {ms : List Int} (hok : s.restOk ix tm ms) (hM : M ≤ 4503599627370496) (hix : ix ≤ M) : RB M N (s.rest ix tm ms) := by
  obtain ⟨h1, h2, h3, h4, h5⟩ := hok
  have hc := B.commit
  have hv := (valid_iff ms).1 h5
  unfold RS.rest
  refine RB.changed ?_ _
  unfold RS.rest1
  split
  · cases hcs : compS s.b s.t s.l ix with
    | none => exact ⟨B.id, B.log, B.top, B.big, B.few, B.low, B.da, hv, B.ps, B.nd, B.term, B.round, ⟨by show 0 ≤ ix; omega, hix⟩, B.ltm⟩
    | some tt =>
      obtain ⟨g1, g2, g3, g4⟩ := comp_some B.log hcs
      refine ⟨B.id, g1, ?_, B.big, ?_, B.low, fun e he => B.da e (List.mem_of_mem_drop he), hv, B.ps, B.nd, B.term, B.round, ⟨by show 0 ≤ ix; omega, hix⟩, ?_⟩
      · show (lastS ix tt (s.l.drop (ix - s.b).toNat)).1 ≤ M
        rw [g4]
        exact B.top
      · show (s.l.drop (ix - s.b).toNat).length ≤ N
        rw [List.length_drop]
        have := B.few
        omega
      · show (lastS ix tt (s.l.drop (ix - s.b).toNat)).2 ≤ s.term
        rw [g4]
        exact B.ltm
  · refine ⟨B.id, ?_, ?_, B.big, Nat.zero_le _, B.low, fun e he => absurd he List.not_mem_nil, hv, B.ps, B.nd, B.term, B.round, ⟨by show 0 ≤ ix; omega, hix⟩, h4⟩
    · unfold newOk
      simp only [Bool.and_eq_true, decide_eq_true_eq]
      exact ⟨by omega, h3, rfl⟩
    · exact hix
theorem rest_nd (s : RS) (ix tm : Int) (ms : List Int) : (s.rest ix tm ms).out.nd = s.out.nd := by
  unfold RS.rest
  rw [changed_nd]
  show (s.rest1 ix tm).out.nd = _
  unfold RS.rest1
  split
  · split <;> rfl
  · rfl
instance (s : RS) (ix tm : Int) (ms : List Int) : Decidable (s.restOk ix tm ms) := by unfold RS.restOk; infer_instance
/-- What Restore answers. -/
def RestAns (rb base : Nat) (s : RS) (h : Hd) (ix tm : Int) (ms : List Int) (w : World) (e : Ending) (w' : World) : Prop :=
  ∃ v, e = .returned (.tuple #[.bool (decide (s.restOk ix tm ms)), v]) ∧ Ans rb base (if s.restOk ix tm ms then s.rest ix tm ms else s) h w (.returned v) w'
theorem RestAns.no {ix tm : Int} {ms : List Int} {v : Value} {w' : World} (hn : ¬ s.restOk ix tm ms) (hA : Ans rb base s h w (.returned v) w') : RestAns rb base s h ix tm ms w (.returned (.tuple #[.bool false, v])) w' := by
  refine ⟨v, ?_, ?_⟩
  · rw [decide_eq_false hn]
  · rw [if_neg hn]; exact hA
theorem RestAns.yes {ix tm : Int} {ms : List Int} {v : Value} {w' : World} (hn : s.restOk ix tm ms) (hA : Ans rb base (s.rest ix tm ms) h w (.returned v) w') : RestAns rb base s h ix tm ms w (.returned (.tuple #[.bool true, v])) w' := by
  refine ⟨v, ?_, ?_⟩
  · rw [decide_eq_true hn]
  · rw [if_pos hn]; exact hA
set_option maxHeartbeats 2000000 in
set_option maxRecDepth 100000 in
theorem rf_restore (ix tm : Int) (ms : List Int) (pm : Option Addr) (cm : Nat) (H : Rf rb base s h w) (B : RB M N s) (hM : max M ix < 4503599627370496) (hix0 : -9223372036854775808 ≤ ix) (hcl : h.clean) (hout : s.out = ot0) (HMS : RdI w w.heap.size pm ms.length ms) (hoff : 0 < ms.length → ∀ g o, pm = some ⟨g, o, none⟩ → ¬ Fo rb h g) :
    Calls Tryz.prog 15 #[.pointer (some ⟨rb, 0, none⟩), .agg #[.int .i64 ix, .int .i64 tm, .slice pm ms.length cm]] w (RestAns rb base s h ix tm ms w) := by
  have hb0 : Below w.heap.size w (w.alloc (.cells #[.int .i64 ix, .int .i64 tm, .slice pm ms.length cm] 34)) := (Below.refl _ w).alloc (Nat.le_refl _) _
  have X0 := CBox.fresh w [.int .i64 ix, .int .i64 tm, .slice pm ms.length cm] 34
  have hs0 : (w.alloc (.cells #[.int .i64 ix, .int .i64 tm, .slice pm ms.length cm] 34)).heap.size = w.heap.size + 1 := World.size_alloc _ _
  have hb1 : Below (w.alloc (.cells #[.int .i64 ix, .int .i64 tm, .slice pm ms.length cm] 34)).heap.size (w.alloc (.cells #[.int .i64 ix, .int .i64 tm, .slice pm ms.length cm] 34)) ((w.alloc (.cells #[.int .i64 ix, .int .i64 tm, .slice pm ms.length cm] 34)).alloc (.cells #[.slice none 0 0, .bool false, .int .i64 0, .slice none 0 0] 37)) := (Below.refl _ _).alloc (Nat.le_refl _) _
  have X1 := CBox.fresh (w.alloc (.cells #[.int .i64 ix, .int .i64 tm, .slice pm ms.length cm] 34)) [.slice none 0 0, .bool false, .int .i64 0, .slice none 0 0] 37
  have hs1 : ((w.alloc (.cells #[.int .i64 ix, .int .i64 tm, .slice pm ms.length cm] 34)).alloc (.cells #[.slice none 0 0, .bool false, .int .i64 0, .slice none 0 0] 37)).heap.size = (w.alloc (.cells #[.int .i64 ix, .int .i64 tm, .slice pm ms.length cm] 34)).heap.size + 1 := World.size_alloc _ _
  have HH := Lib.hid H
  have hrl := H.rlt
  have HLT := Lib.hid (fun k (hk : Fo rb h k) => (H.lt hk).2)
  have HBB := Lib.hid B
  have HCL := Lib.hid hcl
  have HOU := Lib.hid hout
  have HRM := Lib.hid HMS
  have HOF := Lib.hid hoff
  have hnd : s.out.nd.length = 0 := by rw [hout]; rfl
  have HML := Lib.hid HMS.1
  clear H B hcl hout HMS hoff
  go_enter Tryz.func15, Tryz.ntmps15
  go_upto_region 1 with fail
  dsimp only [List.toArray] at X0 X1
  generalize w.alloc (.cells #[.int .i64 ix, .int .i64 tm, .slice pm ms.length cm] 34) = Wa at *
  have X0 := X0.below hb1
  generalize Wa.alloc (.cells #[.slice none 0 0, .bool false, .int .i64 0, .slice none 0 0] 37) = W1 at *
  have HFIN : Hid (∀ (y : RS) (e : Ending) (w' W' : World), Ans rb base y h W1 e w' → Fr (fun k => k = Wa.heap.size) w' W' → Ans rb base y h w e W') := Lib.hid (fun y e w' W' hA hF => (Ans.boxed (HH.out.below hb0) hA hb1 hs1 hF).lower hb0)
  have HB1 := Lib.hid (hb0.trans (hb1.mono hb0.size))
  obtain ⟨b1, hb1e⟩ : ∃ b1, b1 = w.heap.size := ⟨_, rfl⟩
  obtain ⟨b2, hb2e⟩ : ∃ b2, b2 = Wa.heap.size := ⟨_, rfl⟩
  rw [← hb1e] at X0 hrl ⊢
  rw [← hb2e] at X1 HFIN
  have hb2' : b1 + 1 = b2 := by omega
  rw [hb2']
  have HE12 : Hid (b1 = w.heap.size ∧ b2 = w.heap.size + 1) := Lib.hid ⟨hb1e, by omega⟩
  have HNF : Hid (¬ Fo rb h b2) := Lib.hid (fun e => by have := HLT.out _ e; omega)
  have HNF1 : Hid (¬ Fo rb h b1) := Lib.hid (fun e => by have := HLT.out _ e; omega)
  have hn1 : b1 ≠ b2 := by omega
  have hn2 : b2 ≠ b1 := by omega
  have hn3 : rb ≠ b1 := by omega
  have HX1 := Lib.hid X0
  have HX2 := Lib.hid X1
  have HR1 := Lib.hid (HH.out.below HB1.out)
  have HM1 := Lib.hid (rdi_wide (HRM.out.below HB1.out) HB1.out.size)
  clear X0 X1 hb0 hb1 hs0 hs1 hb1e hb2e HRM
  have a0 : ∀ q : Later W1, q.1.cell? ⟨b1, 0, none⟩ = some (.int .i64 ix) := fun q => (HX1.out.below q.2).1 0 _ rfl
  have a1 : ∀ q : Later W1, q.1.cell? ⟨b1, 1, none⟩ = some (.int .i64 tm) := fun q => (HX1.out.below q.2).1 1 _ rfl
  have a2 : ∀ q : Later W1, q.1.cell? ⟨b1, 2, none⟩ = some (.slice pm ms.length cm) := fun q => (HX1.out.below q.2).1 2 _ rfl
  have q1 : ∀ q : Later W1, q.1.cell? ⟨rb, 1, none⟩ = some (.int .i64 s.role) := HR1.out.q 1 rfl
  have q3 : ∀ q : Later W1, q.1.cell? ⟨rb, 3, none⟩ = some (.int .i64 s.term) := HR1.out.q 3 rfl
  have q5 : ∀ q : Later W1, q.1.cell? ⟨rb, 5, none⟩ = some (.int .i64 s.commit) := HR1.out.q 5 rfl
  have HNO : Hid (∀ q : Later W1, Calls Tryz.prog 46 #[.pointer (some ⟨rb, 0, none⟩)] q.1 fun e w' => e = .returned (.bool false) ∧ w' = q.1) := Lib.hid (fun q => rf_none (HR1.out.below q.2))
  have HVA : Hid (∀ q : Later W1, Calls Tryz.prog 43 #[.slice pm ms.length cm] q.1 fun e w' => e = .returned (.bool (validB ms)) ∧ Below q.1.heap.size q.1 w') := Lib.hid (fun q => valid_call pm ms.length cm _ ms q.1 (HM1.out.below q.2))
  go_cut [45] (fun s45 wx => ∃ β : Bool, s45 = .bool β ∧ Hid (Below W1.heap.size W1 wx) ∧ Hid (Dec β (¬ s.restOk ix tm ms)))
  case first =>
    by_cases ht1 : s.role ≠ 2
    case neg =>
      have HN : Hid (Dec true (¬ s.restOk ix tm ms)) := Lib.hid (Dec.t (fun h => ht1 (h.1)))
      have dd1 : (s.role == 2) = true := by have : s.role = 2 := Decidable.of_not_not ht1; simp [this]
      go_wp2_with fail
      refine wp_region_later (by kernel_rfl) (by kernel_rfl) ?_
      repeat (go_big_quiet_step ((first | (go_at_call 46; exact Calls.later_same (HNO.out _)) | (go_at_call 43; exact Calls.later_of (HVA.out _)))))
      refine wpQuiet_nil ?_
      intro W2 hw'
      obtain ⟨⟨wq, hq⟩, hw''⟩ := hw'
      have hwe : W2 = wq := hw''
      clear hw''
      subst hwe
      have HB2 := Lib.hid hq
      clear hq
      go_wp2
      go_meet
      case rel => exact ⟨_, rfl, HB2, HN⟩
    have dd1 : (s.role == 2) = false := by simp [ht1]
    by_cases ht2 : s.commit < ix
    case neg =>
      have HN : Hid (Dec true (¬ s.restOk ix tm ms)) := Lib.hid (Dec.t (fun h => ht2 (h.2.1)))
      have dd2 : decide (ix ≤ s.commit) = true := decide_eq_true (by omega)
      go_wp2_with fail
      refine wp_region_later (by kernel_rfl) (by kernel_rfl) ?_
      repeat (go_big_quiet_step ((first | (go_at_call 46; exact Calls.later_same (HNO.out _)) | (go_at_call 43; exact Calls.later_of (HVA.out _)))))
      refine wpQuiet_nil ?_
      intro W2 hw'
      obtain ⟨⟨wq, hq⟩, hw''⟩ := hw'
      have hwe : W2 = wq := hw''
      clear hw''
      subst hwe
      have HB2 := Lib.hid hq
      clear hq
      go_wp2
      go_meet
      case rel => exact ⟨_, rfl, HB2, HN⟩
    have dd2 : decide (ix ≤ s.commit) = false := decide_eq_false (by omega)
    by_cases ht3 : 0 ≤ tm
    case neg =>
      have HN : Hid (Dec true (¬ s.restOk ix tm ms)) := Lib.hid (Dec.t (fun h => ht3 (h.2.2.1)))
      have dd3 : decide (tm < 0) = true := decide_eq_true (by omega)
      go_wp2_with fail
      refine wp_region_later (by kernel_rfl) (by kernel_rfl) ?_
      repeat (go_big_quiet_step ((first | (go_at_call 46; exact Calls.later_same (HNO.out _)) | (go_at_call 43; exact Calls.later_of (HVA.out _)))))
      refine wpQuiet_nil ?_
      intro W2 hw'
      obtain ⟨⟨wq, hq⟩, hw''⟩ := hw'
      have hwe : W2 = wq := hw''
      clear hw''
      subst hwe
      have HB2 := Lib.hid hq
      clear hq
      go_wp2
      go_meet
      case rel => exact ⟨_, rfl, HB2, HN⟩
    have dd3 : decide (tm < 0) = false := decide_eq_false (by omega)
    by_cases ht4 : tm ≤ s.term
    case neg =>
      have HN : Hid (Dec true (¬ s.restOk ix tm ms)) := Lib.hid (Dec.t (fun h => ht4 (h.2.2.2.1)))
      have dd4 : decide (s.term < tm) = true := decide_eq_true (by omega)
      go_wp2_with fail
      refine wp_region_later (by kernel_rfl) (by kernel_rfl) ?_
      repeat (go_big_quiet_step ((first | (go_at_call 46; exact Calls.later_same (HNO.out _)) | (go_at_call 43; exact Calls.later_of (HVA.out _)))))
      refine wpQuiet_nil ?_
      intro W2 hw'
      obtain ⟨⟨wq, hq⟩, hw''⟩ := hw'
      have hwe : W2 = wq := hw''
      clear hw''
      subst hwe
      have HB2 := Lib.hid hq
      clear hq
      go_wp2
      go_meet
      case rel => exact ⟨_, rfl, HB2, HN⟩
    have dd4 : decide (s.term < tm) = false := decide_eq_false (by omega)
    by_cases ht5 : validB ms = true
    case neg =>
      have HN : Hid (Dec true (¬ s.restOk ix tm ms)) := Lib.hid (Dec.t (fun h => ht5 (h.2.2.2.2)))
      rw [show validB ms = false by simpa using ht5] at HVA
      go_wp2_with fail
      refine wp_region_later (by kernel_rfl) (by kernel_rfl) ?_
      repeat (go_big_quiet_step ((first | (go_at_call 46; exact Calls.later_same (HNO.out _)) | (go_at_call 43; exact Calls.later_of (HVA.out _)))))
      refine wpQuiet_nil ?_
      intro W2 hw'
      obtain ⟨⟨wq, hq⟩, hw''⟩ := hw'
      have hwe : W2 = wq := hw''
      clear hw''
      subst hwe
      have HB2 := Lib.hid hq
      clear hq
      go_wp2
      go_meet
      case rel => exact ⟨_, rfl, HB2, HN⟩
    rw [ht5] at HVA
    have HN : Hid (Dec false (¬ s.restOk ix tm ms)) := Lib.hid (Dec.f (fun h => h ⟨ht1, ht2, ht3, ht4, ht5⟩))
    go_wp2_with fail
    refine wp_region_later (by kernel_rfl) (by kernel_rfl) ?_
    repeat (go_big_quiet_step ((first | (go_at_call 46; exact Calls.later_same (HNO.out _)) | (go_at_call 43; exact Calls.later_of (HVA.out _)))))
    refine wpQuiet_nil ?_
    intro W2 hw'
    obtain ⟨⟨wq, hq⟩, hw''⟩ := hw'
    have hwe : W2 = wq := hw''
    clear hw''
    subst hwe
    have HB2 := Lib.hid hq
    clear hq
    go_wp2
    go_meet
    case rel => exact ⟨_, rfl, HB2, HN⟩
  case rest =>
  obtain ⟨β, rfl, HBW, HBE⟩ := hcut
  generalize wc = W2 at *
  have HXA := Lib.hid (HX1.out.below HBW.out)
  have HXB := Lib.hid (HX2.out.below HBW.out)
  have HR2 := Lib.hid (HR1.out.below HBW.out)
  have HM2 := Lib.hid (rdi_wide (HM1.out.below HBW.out) HBW.out.size)
  have HP2 : Hid (PS rb h h W1 W2) := Lib.hid (PS.still HBW.out)
  have HB2 := Lib.hid (HB1.out.trans (HBW.out.mono HB1.out.size))
  clear a0 a1 a2 q1 q3 q5 HNO HVA
  cases β with
  | true =>
    have HNO : Hid (¬ s.restOk ix tm ms) := Lib.hid (HBE.out.1 rfl)
    have t0 := HXB.out.1 0 _ rfl
    have t1 := HXB.out.1 1 _ rfl
    have t2 := HXB.out.1 2 _ rfl
    have t3 := HXB.out.1 3 _ rfl
    have u0 := HXB.out.2.1 0 (by show 0 < 4; omega)
    have u1 := HXB.out.2.1 1 (by show 1 < 4; omega)
    have u2 := HXB.out.2.1 2 (by show 2 < 4; omega)
    have u3 := HXB.out.2.1 3 (by show 3 < 4; omega)
    go_wp2_with fail
    refine bodyPost_ret (results_2c rfl _ _ _ ⟨b2, 0, none⟩ (.agg #[.slice none 0 0, .bool false, .int .i64 0, .slice none 0 0]) rfl (by go_simp)) rfl ?_
    refine RestAns.no (v := outZ) HNO.out ?_
    exact Ans.still HH.out HCL.out HOU.out (((((HB2.out.setCell (p := ⟨b2, 0, none⟩) (by have := HE12.out; show w.heap.size ≤ b2; omega) _).setCell (p := ⟨b2, 1, none⟩) (by have := HE12.out; show w.heap.size ≤ b2; omega) _).setCell (p := ⟨b2, 2, none⟩) (by have := HE12.out; show w.heap.size ≤ b2; omega) _).setCell (p := ⟨b2, 3, none⟩) (by have := HE12.out; show w.heap.size ≤ b2; omega) _))
  | false =>
  have hhe : s.restOk ix tm ms := by
    by_cases h9 : s.restOk ix tm ms
    · exact h9
    · have := HBE.out.2 h9; cases this
  have HHE := Lib.hid hhe
  clear hhe HBE HR1 HX1 HM1 HBW HB2
  (try clear W1)
  have hb0 := (newOk_parts HBB.out.log).1
  have hcm := HBB.out.commit
  have hbig := HBB.out.big
  have hc0 := HHE.out.2.1
  have HAT := Lib.hid (fun W (hW : Below W2.heap.size W2 W) => by
    have := lg_at ix ((HR2.out.below hW).all .log) (by omega)
    rw [atV_form] at this
    exact this)
  have HR1S : Hid (s.rest1 ix tm = if (atS s.b s.l ix).map (·.tm) = some tm then (match compS s.b s.t s.l ix with
    | some tt => { s with b := ix, t := tt, l := s.l.drop (ix - s.b).toNat }
    | none => s)
  else { s with b := ix, t := tm, l := [] }) := Lib.hid rfl
  have HIS : Hid ((atS s.b s.l ix).map (·.tm) = some tm ↔ (atS s.b s.l ix).isSome = true ∧ ((atS s.b s.l ix).getD en0).tm = tm) := Lib.hid (by
    cases atS s.b s.l ix with
    | none => simp
    | some y => simp)
  generalize (atS s.b s.l ix).isSome = ism at *
  generalize hen : (atS s.b s.l ix).getD en0 = en at *
  obtain ⟨e1, e2, e3, e4⟩ := en
  unfold env at HAT
  dsimp only at HAT HIS
  clear hen
  have a0 : ∀ q : Later W2, q.1.cell? ⟨b1, 0, none⟩ = some (.int .i64 ix) := fun q => (HXA.out.below q.2).1 0 _ rfl
  have q10 : ∀ q : Later W2, q.1.cell? ⟨rb, 10, none⟩ = some (.pointer (some ⟨h.xb, 0, none⟩)) := HR2.out.q 10 rfl
  go_upto_region 3 with fail
  go_cut [6, 7] (fun s6 s7 wx => ∃ B3 : Nat, s6 = .pointer (some ⟨B3, 0, none⟩) ∧ s7 = .bool ism ∧ Hid (Below W2.heap.size W2 wx) ∧ Hid (CBox B3 [.int .i64 e1, .int .i64 e2, .int .i64 e3, .string e4] wx))
  case first =>
    go_wp2_with fail
    refine Mix.region_mix (n := 12) (m := 7) (fun V => ∃ q : Later W2, V = q.1) [0, 1, 2, 3, 4, 5] (by kernel_rfl) rfl rfl (by kernel_rfl) (by kernel_rfl) ⟨⟨_, (Below.refl _ _).drew⟩, rfl⟩ ?_
    repeat (refine Mix.picks_step rfl ?_; go_big_quiet_step (fail))
    refine Mix.picks_nil ?_
    intro inv
    refine sink_two (i := 6) (j := 10) (by kernel_rfl) rfl rfl (by omega) (by omega) inv (fun K hK => ?_) (fun K hK => ?_)
    · have HKK := Lib.hid hK
      clear hK
      go_simp
      with_reducible refine (HAT.out _ (Below.refl _ _).drew).mono ?_
      rintro e W4 ⟨rfl, hb4⟩
      have HB4 : Hid (Below W2.heap.size W2 W4) := Lib.hid ((Below.refl _ _).drew.trans (hb4.mono (Nat.le_refl _)))
      clear hb4
      refine HKK.out _ _ ⟨⟨_, HB4.out⟩, rfl⟩ ?_
      clear HKK inv
      intro hS inv
      (try simp only [Act.put]); (try simp only [List.setIfInBounds_toArray]); (try simp only [List.set_cons_succ]); (try simp only [List.set_cons_zero])
      refine Mix.more2 [7, 8, 9] (m := 3) rfl (by kernel_rfl) (by kernel_rfl) inv ⟨⟨_, HB4.out⟩, rfl⟩ (Mix.picks_cons rfl (Mix.picks_cons rfl (Mix.picks_cons rfl Mix.picks_end))) ?_
      repeat (go_big_quiet_step (fail))
      refine wpQuiet_nil ?_
      clear inv
      intro inv
      refine sink_one (i := 10) (by kernel_rfl) rfl (by omega) inv (fun K hK => ?_)
      have HKK := Lib.hid hK
      clear hK
      go_simp
      refine HKK.out _ _ ⟨⟨_, HB4.out.alloc HB4.out.size _⟩, rfl⟩ ?_
      clear HKK inv
      intro hS inv
      (try simp only [Act.put]); (try simp only [List.setIfInBounds_toArray]); (try simp only [List.set_cons_succ]); (try simp only [List.set_cons_zero])
      clear a0 q10
      refine sink_one (i := 11) (by kernel_rfl) rfl (by omega) inv (fun K hK => ?_)
      have HKK := Lib.hid hK
      clear hK
      go_simp
      refine HKK.out _ _ ⟨⟨_, HB4.out.alloc HB4.out.size _⟩, rfl⟩ ?_
      clear HKK inv
      intro hS inv
      (try simp only [Act.put]); (try simp only [List.setIfInBounds_toArray]); (try simp only [List.set_cons_succ]); (try simp only [List.set_cons_zero])
      refine sink_last (by kernel_rfl) rfl (by kernel_rfl) (fun K hK => ?_)
      have HKK := Lib.hid hK
      clear hK
      go_simp
      refine HKK.out _ _ ⟨rfl, ?_⟩
      clear HKK inv hS
      go_wp2
      go_meet
      case rel => exact ⟨_, rfl, rfl, Lib.hid (HB4.out.alloc HB4.out.size _), Lib.hid (CBox.fresh W4 [.int .i64 e1, .int .i64 e2, .int .i64 e3, .string e4] 25)⟩
    · have HKK := Lib.hid hK
      clear hK
      go_simp
      refine HKK.out _ _ ⟨⟨_, (Below.refl _ _).drew.alloc (Nat.le_refl _) _⟩, rfl⟩ ?_
      clear HKK inv
      intro hS inv
      (try simp only [Act.put]); (try simp only [List.setIfInBounds_toArray]); (try simp only [List.set_cons_succ]); (try simp only [List.set_cons_zero])
      have hbA : Below W2.heap.size W2 (W2.alloc (.cells #[.int .i64 0, .int .i64 0, .int .i64 0, .string ⟨#[]⟩] 25)) := (Below.refl _ _).alloc (Nat.le_refl _) _
      have X5 := CBox.fresh W2 [.int .i64 0, .int .i64 0, .int .i64 0, .string ⟨#[]⟩] 25
      dsimp only [List.toArray] at X5
      refine sink_one (i := 6) (by kernel_rfl) rfl (by omega) inv (fun K hK => ?_)
      have HKK := Lib.hid hK
      clear hK
      go_simp
      with_reducible refine (HAT.out _ hbA.drew).mono ?_
      rintro e W4 ⟨rfl, hb4⟩
      have HB4 : Hid (Below W2.heap.size W2 W4) := Lib.hid (hbA.drew.trans (hb4.mono hbA.size))
      have HX4 := Lib.hid ((X5.below (Below.refl _ _).drew).below hb4)
      clear hb4 X5 hbA a0 q10
      refine HKK.out _ _ ⟨⟨_, HB4.out⟩, rfl⟩ ?_
      clear HKK inv
      intro hS inv
      (try simp only [Act.put]); (try simp only [List.setIfInBounds_toArray]); (try simp only [List.set_cons_succ]); (try simp only [List.set_cons_zero])
      refine Mix.more2 [7, 8, 9] (m := 2) rfl (by kernel_rfl) (by kernel_rfl) inv ⟨⟨_, HB4.out⟩, rfl⟩ (Mix.picks_cons rfl (Mix.picks_cons rfl (Mix.picks_cons rfl Mix.picks_end))) ?_
      repeat (go_big_quiet_step (fail))
      refine wpQuiet_nil ?_
      clear inv
      intro inv
      have z0 := HX4.out.1 0 _ rfl
      have z1 := HX4.out.1 1 _ rfl
      have z2 := HX4.out.1 2 _ rfl
      have z3 := HX4.out.1 3 _ rfl
      have y0 := HX4.out.2.1 0 (by show 0 < 4; omega)
      have y1 := HX4.out.2.1 1 (by show 1 < 4; omega)
      have y2 := HX4.out.2.1 2 (by show 2 < 4; omega)
      have y3 := HX4.out.2.1 3 (by show 3 < 4; omega)
      have HSB := Lib.hid (set4_below HB4.out W2.heap.size (Nat.le_refl _) (.int .i64 e1) (.int .i64 e2) (.int .i64 e3) (.string e4))
      have hx6 := (((HX4.out.set 0 (.int .i64 e1) (by show 0 < 4; omega)).set 1 (.int .i64 e2) (by show 1 < 4; omega)).set 2 (.int .i64 e3) (by show 2 < 4; omega)).set 3 (.string e4) (by show 3 < 4; omega)
      dsimp only [List.set] at hx6
      have HX6 := Lib.hid hx6
      clear hx6 HX4
      refine sink_one (i := 11) (by kernel_rfl) rfl (by omega) inv (fun K hK => ?_)
      have HKK := Lib.hid hK
      clear hK
      go_simp
      refine HKK.out _ _ ⟨⟨_, HSB.out⟩, rfl⟩ ?_
      clear HKK inv
      intro hS inv
      (try simp only [Act.put]); (try simp only [List.setIfInBounds_toArray]); (try simp only [List.set_cons_succ]); (try simp only [List.set_cons_zero])
      refine sink_last (by kernel_rfl) rfl (by kernel_rfl) (fun K hK => ?_)
      have HKK := Lib.hid hK
      clear hK
      go_simp
      refine HKK.out _ _ ⟨rfl, ?_⟩
      clear HKK inv hS
      go_wp2
      go_meet
      case rel => exact ⟨_, rfl, rfl, HSB, HX6⟩
  case rest =>
  obtain ⟨B3, rfl, rfl, HBW, HX3⟩ := hcut
  generalize wc = W3 at *
  have HXA3 := Lib.hid (HXA.out.below HBW.out)
  have HXB3 := Lib.hid (HXB.out.below HBW.out)
  have HR3 := Lib.hid (HR2.out.below HBW.out)
  have HM3 := Lib.hid (rdi_wide (HM2.out.below HBW.out) HBW.out.size)
  have HP3 : Hid (PS rb h h W1 W3) := Lib.hid (HP2.out.trans (PS.still HBW.out))
  clear a0 q10 HAT HXA HXB HR2 HM2 HP2 HBW
  (try clear W2)
  have z1 := HX3.out.1 1 _ rfl
  have c1 := HXA3.out.1 1 _ rfl
  go_upto_region 4 with fail
  go_cut [64] (fun s64 wx => ∃ β : Bool, s64 = .bool β ∧ wx = W3 ∧ Hid (Dec β ((atS s.b s.l ix).map (·.tm) = some tm)))
  case first =>
    cases ism with
    | false =>
      have HN : Hid (Dec false ((atS s.b s.l ix).map (·.tm) = some tm)) := Lib.hid (Dec.f (fun hc => by have := (HIS.out.1 hc).1; cases this))
      go_wp2
      go_meet
      case rel => exact ⟨_, rfl, rfl, HN⟩
    | true =>
      by_cases htt : e2 = tm
      · have d2 : (e2 == tm) = true := by simp [htt]
        have HN : Hid (Dec true ((atS s.b s.l ix).map (·.tm) = some tm)) := Lib.hid (Dec.t (HIS.out.2 ⟨rfl, htt⟩))
        clear htt
        go_wp2
        go_meet
        case rel => exact ⟨_, rfl, rfl, HN⟩
      · have d2 : (e2 == tm) = false := by simp [htt]
        have HN : Hid (Dec false ((atS s.b s.l ix).map (·.tm) = some tm)) := Lib.hid (Dec.f (fun hc => htt (HIS.out.1 hc).2))
        clear htt
        go_wp2
        go_meet
        case rel => exact ⟨_, rfl, rfl, HN⟩
  case rest =>
  obtain ⟨β, rfl, hwc, HBE⟩ := hcut
  subst hwc
  generalize wc = W3 at *
  clear z1 c1 HX3 HIS
  have a0 : ∀ q : Later W3, q.1.cell? ⟨b1, 0, none⟩ = some (.int .i64 ix) := fun q => (HXA3.out.below q.2).1 0 _ rfl
  have a1 : ∀ q : Later W3, q.1.cell? ⟨b1, 1, none⟩ = some (.int .i64 tm) := fun q => (HXA3.out.below q.2).1 1 _ rfl
  have q10 : ∀ q : Later W3, q.1.cell? ⟨rb, 10, none⟩ = some (.pointer (some ⟨h.xb, 0, none⟩)) := HR3.out.q 10 rfl
  have hixt : ix ≤ 4611686018427387904 := by omega
  go_upto_if 64 with fail
  go_cut [] (fun wx => Hid (∃ h4, Rf rb base (s.rest1 ix tm) h4 wx ∧ PS rb h h4 W3 wx ∧ h4.mh = h.mh))
  case first =>
    cases β with
    | true =>
      have HRE : Hid (s.rest1 ix tm = match compS s.b s.t s.l ix with
        | some tt => { s with b := ix, t := tt, l := s.l.drop (ix - s.b).toNat }
        | none => s) := Lib.hid (by rw [HR1S.out, if_pos (HBE.out.1 rfl)])
      cases hcs : compS s.b s.t s.l ix with
      | none =>
        have HCP := Lib.hid (fun W (hW : Below W3.heap.size W3 W) => lg_compact_no ix ((HR3.out.below hW).all .log) hixt hcs)
        have HSE : Hid (s.rest1 ix tm = s) := Lib.hid (by rw [HRE.out, hcs])
        clear hcs HRE
        go_wp2_with fail
        refine Mix.region_mix (n := 6) (m := 1) (fun V => ∃ q : Later W3, V = q.1) [0, 1, 2, 3, 4, 5] (by kernel_rfl) rfl rfl (by kernel_rfl) (by kernel_rfl) ⟨⟨_, (Below.refl _ _).drew⟩, rfl⟩ ?_
        repeat (refine Mix.picks_step rfl ?_; go_big_quiet_step (fail))
        refine Mix.picks_nil ?_
        intro inv
        refine sink_last (by kernel_rfl) rfl (by kernel_rfl) (fun K hK => ?_)
        have HKK := Lib.hid hK
        clear hK
        go_simp
        with_reducible refine (HCP.out _ (Below.refl _ _).drew).mono ?_
        rintro e W4 ⟨rfl, hb4⟩
        have HB4 : Hid (Below W3.heap.size W3 W4) := Lib.hid ((Below.refl _ _).drew.trans (hb4.mono (Nat.le_refl _)))
        clear hb4
        refine HKK.out _ _ ⟨rfl, ?_⟩
        clear HKK inv
        have HF : Hid (∃ h4, Rf rb base (s.rest1 ix tm) h4 W4 ∧ PS rb h h4 W3 W4 ∧ h4.mh = h.mh) := Lib.hid ⟨h, by rw [HSE.out]; exact HR3.out.below HB4.out, PS.still HB4.out, rfl⟩
        go_wp2
        go_meet
        case rel => exact HF
      | some tt =>
        have HCP := Lib.hid (fun W (hW : Below W3.heap.size W3 W) => lg_compact ix ((HR3.out.below hW).all .log) hixt hcs)
        have HSE : Hid (s.rest1 ix tm = { s with b := ix, t := tt, l := s.l.drop (ix - s.b).toNat }) := Lib.hid (by rw [HRE.out, hcs])
        clear hcs HRE
        go_wp2_with fail
        refine Mix.region_mix (n := 6) (m := 1) (fun V => ∃ q : Later W3, V = q.1) [0, 1, 2, 3, 4, 5] (by kernel_rfl) rfl rfl (by kernel_rfl) (by kernel_rfl) ⟨⟨_, (Below.refl _ _).drew⟩, rfl⟩ ?_
        repeat (refine Mix.picks_step rfl ?_; go_big_quiet_step (fail))
        refine Mix.picks_nil ?_
        intro inv
        refine sink_last (by kernel_rfl) rfl (by kernel_rfl) (fun K hK => ?_)
        have HKK := Lib.hid hK
        clear hK
        go_simp
        with_reducible refine (HCP.out _ (Below.refl _ _).drew).mono ?_
        rintro e W4 ⟨rfl, v4, hl4, hf4, hv4⟩
        have hf34 : Fr (lgF h.xb h.lv) W3 W4 := Fr.trans (Fr.refl _ W3).drew (hf4.mono (T := lgF h.xb h.lv) (fun _ _ e => .inl e)) (fun i hi _ => hi)
        have hlg := HR3.out.logged hl4 hf34 (.inr hv4)
        have HF : Hid (∃ h4, Rf rb base (s.rest1 ix tm) h4 W4 ∧ PS rb h h4 W3 W4 ∧ h4.mh = h.mh) := Lib.hid ⟨_, by rw [HSE.out]; exact hlg.1, hlg.2, rfl⟩
        clear hl4 hf4 hv4 hf34 hlg
        refine HKK.out _ _ ⟨rfl, ?_⟩
        clear HKK inv
        go_wp2
        go_meet
        case rel => exact HF
    | false =>
      have HSE : Hid (s.rest1 ix tm = { s with b := ix, t := tm, l := [] }) := Lib.hid (by rw [HR1S.out, if_neg (fun hc => by have := HBE.out.2 hc; cases this)])
      have HCP := Lib.hid (fun W (hW : Below W3.heap.size W3 W) => lg_reset ix tm ((HR3.out.below hW).all .log) (by omega) hixt)
      go_wp2_with fail
      refine Mix.region_mix (n := 8) (m := 1) (fun V => ∃ q : Later W3, V = q.1) [0, 1, 2, 3, 4, 5, 6, 7] (by kernel_rfl) rfl rfl (by kernel_rfl) (by kernel_rfl) ⟨⟨_, (Below.refl _ _).drew⟩, rfl⟩ ?_
      repeat (refine Mix.picks_step rfl ?_; go_big_quiet_step (fail))
      refine Mix.picks_nil ?_
      intro inv
      refine sink_last (by kernel_rfl) rfl (by kernel_rfl) (fun K hK => ?_)
      have HKK := Lib.hid hK
      clear hK
      go_simp
      with_reducible refine (HCP.out _ (Below.refl _ _).drew).mono ?_
      rintro e W4 ⟨rfl, hl4, hf4⟩
      have hf34 : Fr (lgF h.xb h.lv) W3 W4 := Fr.trans (Fr.refl _ W3).drew (hf4.mono (T := lgF h.xb h.lv) (fun _ _ e => .inl e)) (fun i hi _ => hi)
      have hlg := HR3.out.logged hl4 hf34 (.inr (fun g e => by cases e))
      have HF : Hid (∃ h4, Rf rb base (s.rest1 ix tm) h4 W4 ∧ PS rb h h4 W3 W4 ∧ h4.mh = h.mh) := Lib.hid ⟨_, by rw [HSE.out]; exact hlg.1, hlg.2, rfl⟩
      clear hl4 hf4 hf34 hlg
      refine HKK.out _ _ ⟨rfl, ?_⟩
      clear HKK inv
      go_wp2
      go_meet
      case rel => exact HF
  case rest =>
  obtain ⟨h4, hr4, hp4, hm4⟩ := hcut.out
  generalize wc = W4 at *
  have HR4 := Lib.hid hr4
  have HP4 := Lib.hid (HP3.out.trans hp4)
  have HMH4 := Lib.hid hm4
  have HXA4 := Lib.hid (HXA3.out.keep hp4.1 HNF1.out)
  have HXB4 := Lib.hid (HXB3.out.keep hp4.1 HNF.out)
  have HM4 := Lib.hid (rdi_wide (RdI.stay HM3.out hp4.1 (Nat.le_refl _) HOF.out) hp4.1.size)
  have HNFA := Lib.hid (hp4.off HXA3.out.2.2 HNF1.out)
  have HNFB := Lib.hid (hp4.off HXB3.out.2.2 HNF.out)
  have HRD : Hid (s.rest ix tm ms = ({ s.rest1 ix tm with snap := ms, commit := ix, out := { (s.rest1 ix tm).out with hd := true } } : RS).changed (ix + 1)) := Lib.hid rfl
  have HNL := Lib.hid (((valid_iff ms).1 HHE.out.2.2.2.2).2.1)
  clear hcut hr4 hp4 hm4 a0 a1 q10 HR3 HP3 HXA3 HXB3 HM3 HR1S HBE
  (try clear W3)
  generalize s.rest1 ix tm = z at *
  have hrb4 := HR4.out.rlt
  have a0 : ∀ q : KeptF (fun k => k = rb) W4, q.1.cell? ⟨b1, 0, none⟩ = some (.int .i64 ix) := fun q => (HXA4.out.keep q.2 (fun e => hn3 e.symm)).1 0 _ rfl
  have a2 : ∀ q : KeptF (fun k => k = rb) W4, q.1.cell? ⟨b1, 2, none⟩ = some (.slice pm ms.length cm) := fun q => (HXA4.out.keep q.2 (fun e => hn3 e.symm)).1 2 _ rfl
  have HCN := Lib.hid (fun W (hW : Below W4.heap.size W4 W) => clone_ints pm ms.length cm ms W (rdi_wide (HM4.out.below hW) hW.size) (by have := HNL.out; omega))
  go_upto_region 7 with fail
  refine Mix.region_mix (n := 12) (m := 7) (fun V => ∃ q : KeptF (fun k => k = rb) W4, V = q.1) [0, 1, 2, 3, 5, 6] (by kernel_rfl) rfl rfl (by kernel_rfl) (by kernel_rfl) ⟨⟨_, (Fr.refl _ _).drew⟩, rfl⟩ ?_
  repeat (refine Mix.picks_step rfl ?_; go_big_quiet_step (fail))
  refine Mix.picks_nil ?_
  intro inv
  refine sink_one (i := 4) (by kernel_rfl) rfl (by omega) inv (fun K hK => ?_)
  have HKK := Lib.hid hK
  clear hK
  go_simp
  with_reducible refine (HCN.out _ (Below.refl _ _).drew).mono ?_
  rintro e W5 ⟨v5, rfl, ho5, hb5⟩
  obtain ⟨p5, c5, hv5⟩ := owns_slice ho5
  subst hv5
  have hb45 : Below W4.heap.size W4 W5 := (Below.refl _ _).drew.trans (hb5.mono (Nat.le_refl _))
  have HF45 := Lib.hid (Fr.of_all (S := fun k => k = rb) hb45)
  have HR5 := Lib.hid (HR4.out.below hb45)
  have HO5 := Lib.hid ho5
  have HB45 := Lib.hid hb45
  clear ho5 hb5 hb45
  have c9 : W5.cell? ⟨rb, 9, none⟩ = some h4.sv := HR5.out.cell 9 rfl
  have f9 := HR5.out.fz 9 (by omega)
  have c5' : W5.cell? ⟨rb, 5, none⟩ = some (.int .i64 z.commit) := HR5.out.cell 5 rfl
  have f5 := HR5.out.fz 5 (by omega)
  refine HKK.out _ _ ⟨⟨_, HF45.out⟩, rfl⟩ ?_
  clear HKK inv
  intro hS inv
  (try simp only [Act.put]); (try simp only [List.setIfInBounds_toArray]); (try simp only [List.set_cons_succ]); (try simp only [List.set_cons_zero])
  refine Mix.more2 [7, 8] (m := 4) rfl (by kernel_rfl) (by kernel_rfl) inv ⟨⟨_, HF45.out⟩, rfl⟩ (Mix.picks_cons rfl (Mix.picks_cons rfl Mix.picks_end)) ?_
  repeat (go_big_quiet_step (fail))
  refine wpQuiet_nil ?_
  clear inv
  intro inv
  refine sink_one (i := 9) (by kernel_rfl) rfl (by omega) inv (fun K hK => ?_)
  have HKK := Lib.hid hK
  clear hK
  go_simp
  refine HKK.out _ _ ⟨⟨_, fr_core2 HF45.out _ _⟩, rfl⟩ ?_
  clear HKK inv
  intro hS inv
  (try simp only [Act.put]); (try simp only [List.setIfInBounds_toArray]); (try simp only [List.set_cons_succ]); (try simp only [List.set_cons_zero])
  refine Mix.more2 [10, 11] (m := 1) rfl (by kernel_rfl) (by kernel_rfl) inv ⟨⟨_, fr_core2 HF45.out _ _⟩, rfl⟩ (Mix.picks_cons rfl (Mix.picks_cons rfl Mix.picks_end)) ?_
  repeat (go_big_quiet_step (fail))
  refine wpQuiet_nil ?_
  clear inv
  intro inv
  refine sink_last (by kernel_rfl) rfl (by kernel_rfl) (fun K hK => ?_)
  have HKK := Lib.hid hK
  clear hK
  go_simp
  refine HKK.out _ _ ⟨rfl, ?_⟩
  clear HKK inv hS
  simp only [Exit.then]
  have hlo4 := HR4.out.bs
  have hr6 := HR4.out.resnap (s' := { z with snap := ms }) (vv := .slice p5 ms.length c5) (w' := W5.setCell ⟨rb, 9, none⟩ (.slice p5 ms.length c5)) (fr_core2 HF45.out _ _) (HR5.out.cbox.set 9 (.slice p5 ms.length c5) (by show 9 < 17; omega)) ((fr_core W5 rb 9 _).owns (own_lo HO5.out hlo4) (fun g hg e => by
    have h1 := (HO5.out.lt g hg).1
    have h2 : W4.drew.heap.size = W4.heap.size := rfl
    omega)) (fun g hg => by
    have h1 := (HO5.out.lt g hg).1
    exact h1) rfl rfl rfl rfl rfl rfl rfl
  have hr7 := hr6.1.put { z with snap := ms, commit := ix } 5 (.int .i64 ix) (by omega) rfl (same_refl _)
  have HR7 := Lib.hid hr7
  have HP7 := Lib.hid (hr6.2.trans (PS.core (h := { h4 with sv := .slice p5 ms.length c5 }) (rb := rb) (fr_core (W5.setCell ⟨rb, 9, none⟩ (.slice p5 ms.length c5)) rb 5 (.int .i64 ix))))
  have HMH7 : Hid (({ h4 with sv := .slice p5 ms.length c5 } : Hd).mh = h.mh) := Lib.hid HMH4.out
  clear hr6 hr7 a0 a2 HCN c9 f9 c5' f5
  generalize ({ h4 with sv := .slice p5 ms.length c5 } : Hd) = h7 at *
  generalize (W5.setCell ⟨rb, 9, none⟩ (.slice p5 ms.length c5)).setCell ⟨rb, 5, none⟩ (.int .i64 ix) = W7 at *
  have HXA7 := Lib.hid (HXA4.out.keep HP7.out.1 HNFA.out)
  have HPP7 := Lib.hid (HP4.out.trans HP7.out)
  have hr8 := HR7.out.put { z with snap := ms, commit := ix, out := { z.out with hd := true } } 14 (.bool true) (by omega) rfl (same_refl _)
  have HCH := Lib.hid (rf_changed (ix + 1) hr8)
  have c14 : W7.cell? ⟨rb, 14, none⟩ = some (.bool z.out.hd) := HR7.out.cell 14 rfl
  have f14 := HR7.out.fz 14 (by omega)
  have a0 := HXA7.out.1 0 _ rfl
  have hwi : IntKind.i64.wrap (ix + 1) = ix + 1 := IntWalk.i64_in _ (by omega)
  clear hr8 HR4 HP4 HXA4 HXB4 HM4 HR5 HO5 HF45 HB45 HNFA HNFB HP7
  go_wp2_with fail
  with_reducible refine (HCH.out).mono ?_
  rintro e W8 ⟨rfl, hr9, hf9⟩
  rw [← HRD.out] at hr9
  have hp9 := HPP7.out.trans (PS.core (h := h7) (fr_core W7 rb 14 (.bool true)))
  have hp9 := hp9.trans (PS.core (h := h7) hf9)
  have hndl : (s.rest ix tm ms).out.nd.length ≤ 9 := by rw [rest_nd, hnd]; omega
  clear hf9 HCH c14 f14 a0 hwi HXA7 HPP7 HR7
  have HTL := Lib.hid (rf_tell hr9 hp9 HCL.out (by omega))
  clear hr9 hp9
  go_wp2_with fail
  with_reducible refine (HTL.out).mono ?_
  intro e w9 hA
  have HA := Lib.hid hA
  obtain ⟨p1, n1, k1, p2, n2, k2, rfl⟩ := hA.form
  have hx9 : CBox b2 [.slice none 0 0, .bool false, .int .i64 0, .slice none 0 0] w9 := by
    obtain ⟨_, _, _, _, _, hp9, _⟩ := hA
    exact HX2.out.keep hp9.1 HNF.out
  have t0 := hx9.1 0 _ rfl
  have t1 := hx9.1 1 _ rfl
  have t2 := hx9.1 2 _ rfl
  have t3 := hx9.1 3 _ rfl
  have u0 := hx9.2.1 0 (by show 0 < 4; omega)
  have u1 := hx9.2.1 1 (by show 1 < 4; omega)
  have u2 := hx9.2.1 2 (by show 2 < 4; omega)
  have u3 := hx9.2.1 3 (by show 3 < 4; omega)
  clear hA hx9 HTL
  go_wp2_with fail
  refine bodyPost_ret (results_2c rfl _ _ _ ⟨b2, 0, none⟩ (.agg #[.slice p1 n1 k1, .bool (s.rest ix tm ms).out.hd, .int .i64 (s.rest ix tm ms).out.fr, .slice p2 n2 k2]) rfl (by go_simp)) rfl ?_
  exact RestAns.yes HHE.out (HFIN.out _ _ _ _ HA.out (((((Fr.refl (fun k => k = b2) w9).setCell (p := ⟨b2, 0, none⟩) (fun _ => rfl) _).setCell (p := ⟨b2, 1, none⟩) (fun _ => rfl) _).setCell (p := ⟨b2, 2, none⟩) (fun _ => rfl) _ |>.setCell (p := ⟨b2, 3, none⟩) (fun _ => rfl) _)))
end
end RF
end Go.Proofs.YtaodldagmmephaaGreat

