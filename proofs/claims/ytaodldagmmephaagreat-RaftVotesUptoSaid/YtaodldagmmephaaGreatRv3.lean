/- arboretumlaw20.RaftVotes: its state; its walk. -/
import Derived.Test.YtaodldagmmephaaGreatRv1
import Derived.Test.YtaodldagmmephaaGreatRv2
import Derived.Test.YtaodldagmmephaaGreatB7
namespace Go.Proofs.YtaodldagmmephaaGreat
open Go.RowKit Go.Maps
namespace RF
instance : Inhabited Mg := ⟨mg0⟩
instance : Inhabited Mx := ⟨⟨none, 0, false, none, 0, 0, 0, none, 0, 0⟩⟩
def mxc (z : Mg × Mx) : List Value := mxcells z.1 z.2
theorem mxc_len (z : Mg × Mx) : (mxc z).length = 14 := rfl
def bcl (b : Bool) : List Value := [.bool b]
theorem row_cell {α : Type} [Inhabited α] {cs : α → List Value} {size : Nat} (hs : ∀ x, (cs x).length = size) {W : World} {n b o : Nat} {l : List α} (hl : l.length = n) (hc : ∀ j u, (rowOf cs l)[j]? = some u → W.cell? ⟨b, o + j, none⟩ = some u) (k c : Nat) (hk : k < n) (u : Value) (hu : (cs (HL.el l k))[c]? = some u) (hcs : c < size) : W.cell? ⟨b, o + (k * size + c), none⟩ = some u := by
  refine hc (k * size + c) u ?_
  rw [rowOf_at cs hs l k c (by rw [hl]; exact hk) hcs]
  exact hu
/-- The law's state as it goes on. -/
structure Vs (L : List En) (w : World) (rb B0 : Nat) (s : RS) (h : Hd) (tv vv : Value) (TL VL : List Int) (k : Nat) (W : World) : Prop where
  cl : h.clean
  rf : Rf rb B0 s h W
  bd : RB ((100 + k : Nat) : Int) (100 + k) s
  vt : Vt L s
  rc : Rec TL VL s
  t : W.ownsRow w.heap.size 3 1 tv TL.length (rowOf ncells TL)
  v : W.ownsRow w.heap.size 3 1 vv VL.length (rowOf ncells VL)
  nt : ∀ g, tv.ownBlock = some g → ¬ Fo rb h g
  nv : ∀ g, vv.ownBlock = some g → ¬ Fo rb h g
  ap : ∀ g, tv.ownBlock = some g → vv.ownBlock ≠ some g
  lo : w.heap.size ≤ B0
  bel : Below w.heap.size w W
section
variable {L : List En} {w : World} {rb B0 : Nat} {s : RS} {h : Hd} {tv vv : Value} {TL VL : List Int} {k : Nat} {W W' : World}
theorem Vs.below (V : Vs L w rb B0 s h tv vv TL VL k W) (hb : Below W.heap.size W W') : Vs L w rb B0 s h tv vv TL VL k W' :=
  ⟨V.cl, V.rf.below hb, V.bd, V.vt, V.rc, (Fr.of_all (S := fun _ => False) hb).owns V.t (fun _ _ h => h), (Fr.of_all (S := fun _ => False) hb).owns V.v (fun _ _ h => h), V.nt, V.nv, V.ap, V.lo, V.bel.trans (hb.mono V.bel.size)⟩
theorem Vs.step {s' : RS} {h' : Hd} {k' : Nat} (V : Vs L w rb B0 s h tv vv TL VL k W) (hc : h'.clean) (hr : Rf rb B0 s' h' W') (hp : PS rb h h' W W') (hb : RB ((100 + k' : Nat) : Int) (100 + k') s') (hv : Vt L s') (hR : Rec TL VL s') : Vs L w rb B0 s' h' tv vv TL VL k' W' :=
  ⟨hc, hr, hb, hv, hR, hp.1.owns V.t V.nt, hp.1.owns V.v V.nv, fun g hg => hp.off (V.t.lt g hg).2 (V.nt g hg), fun g hg => hp.off (V.v.lt g hg).2 (V.nv g hg), V.ap, V.lo, V.bel.trans (hp.1.below V.bel.size (fun _ hi => Nat.le_trans V.lo (V.rf.lt hi).1))⟩
end
theorem Vs.grow {L : List En} {w : World} {rb B0 : Nat} {s : RS} {h : Hd} {tv vv : Value} {TL VL : List Int} {k : Nat} {W : World} (V : Vs L w rb B0 s h tv vv TL VL k W) (x y : Int) {o o2 : Obj} {v7 v8 : Value} {w7 w8 : World}
    (ho7 : w7.ownsRow w.heap.size 3 1 v7 (TL.length + 1) (rowOf ncells TL ++ rowOf ncells [x])) (hg7 : (W.alloc o).grownBy w7 tv.ownBlock) (ha7 : v7.ownBlock = tv.ownBlock ∨ v7.ownBlock = some (W.alloc o).heap.size)
    (ho8 : w8.ownsRow w.heap.size 3 1 v8 (VL.length + 1) (rowOf ncells VL ++ rowOf ncells [y])) (hg8 : (w7.alloc o2).grownBy w8 vv.ownBlock) (ha8 : v8.ownBlock = vv.ownBlock ∨ v8.ownBlock = some (w7.alloc o2).heap.size)
    (hr : Rec (TL ++ [x]) (VL ++ [y]) s) : Vs L w rb B0 s h v7 v8 (TL ++ [x]) (VL ++ [y]) k w8 ∧ Fr (fun i => tv.ownBlock = some i ∨ vv.ownBlock = some i) W w8 := by
  have F7 : Fr (fun i => tv.ownBlock = some i) W w7 := Fr.trans ((Fr.refl (fun i => tv.ownBlock = some i) W).alloc o) (Fr.of_grown hg7 (S := fun i => tv.ownBlock = some i) (fun _ _ h => h)) (fun i hi _ => hi)
  have F8 : Fr (fun i => vv.ownBlock = some i) w7 w8 := Fr.trans ((Fr.refl (fun i => vv.ownBlock = some i) w7).alloc o2) (Fr.of_grown hg8 (S := fun i => vv.ownBlock = some i) (fun _ _ h => h)) (fun i hi _ => hi)
  have F : Fr (fun i => tv.ownBlock = some i ∨ vv.ownBlock = some i) W w8 := Fr.trans (F7.mono (fun _ _ e => .inl e)) (F8.mono (T := fun i => tv.ownBlock = some i ∨ vv.ownBlock = some i) (fun _ _ e => .inr e)) (fun _ hi _ => hi)
  have hs1 : (W.alloc o).heap.size = W.heap.size + 1 := World.size_alloc _ _
  have hs2 : (w7.alloc o2).heap.size = w7.heap.size + 1 := World.size_alloc _ _
  have h7 := F7.size
  have n7 : ∀ g, v7.ownBlock = some g → vv.ownBlock ≠ some g := fun g hg e => by
    rcases ha7 with e7 | e7
    · exact V.ap g (e7.symm.trans hg) e
    · rw [e7] at hg; injection hg with hg; have := (V.v.lt g e).2; omega
  have t7 : ∀ g, v7.ownBlock = some g → ¬ Fo rb h g := fun g hg e => by
    rcases ha7 with e7 | e7
    · exact V.nt g (e7.symm.trans hg) e
    · rw [e7] at hg; injection hg with hg; have := (V.rf.lt e).2; omega
  refine ⟨⟨V.cl, V.rf.keep F (fun i hi e => e.elim (fun e => V.nt i e hi) (fun e => V.nv i e hi)), V.bd, V.vt, hr, ?_, ?_, t7, ?_, ?_, V.lo, V.bel.trans (F.below V.bel.size (fun i e => e.elim (fun e => (V.t.lt i e).1) (fun e => (V.v.lt i e).1)))⟩, F⟩
  · rw [List.length_append, rowOf_append]
    exact F8.owns ho7 (fun g hg e => n7 g hg e)
  · rw [List.length_append, rowOf_append]
    exact ho8
  · intro g hg e
    rcases ha8 with e8 | e8
    · exact V.nv g (e8.symm.trans hg) e
    · rw [e8] at hg; injection hg with hg; have := (V.rf.lt e).2; omega
  · intro g hg e
    rcases ha8 with e8 | e8
    · exact n7 g hg (e8.symm.trans e)
    · rw [e8] at e; injection e with e; have := (ho7.lt g hg).2; omega
theorem RB.stepV {s : RS} {M : Int} {N : Nat} (B : RB M N s) (m : Mg) (he : m.en = []) (hM : M < 4503599627370496) (hN : N < 10000) : RB (M + 1) (N + 1) (s.step m) := by
  unfold RS.step
  split
  · rename_i hh
    exact (B.step0 m 1 (Nat.le_refl _) (by rw [he]; exact Nat.zero_le _) (by omega) (by omega) (fun e h => by rw [he] at h; exact absurd h List.not_mem_nil) hh.2.2.2.2.2.2.2).1
  · exact B.mono (by omega) (by omega) (by omega) (by omega)
theorem last_el (L : List En) (h : 0 < L.length) : lastS 0 0 L = ((HL.el L (L.length - 1)).ix, (HL.el L (L.length - 1)).tm) := by
  unfold lastS
  rw [if_neg (by omega)]
theorem newer_cases {L : List En} {ix lt : Int} (h : newerS 0 0 L ix lt = true) : (lastS 0 0 L).2 < lt ∨ lt = (lastS 0 0 L).2 ∧ (lastS 0 0 L).1 ≤ ix := by
  unfold newerS at h
  rw [Bool.or_eq_true, Bool.and_eq_true, decide_eq_true_eq, decide_eq_true_eq, decide_eq_true_eq] at h
  exact h
set_option maxHeartbeats 2000000 in
set_option maxRecDepth 100000 in
theorem votes_walk (p1 : Option Addr) (n1 c1 : Nat) (L : List En) (p2 : Option Addr) (n2 c2 : Nat) (MS : List (Mg × Mx)) (p3 : Option Addr) (n3 c3 : Nat) (FS : List Bool) (w : World)
    (hL : RdG ecells w w.heap.size p1 n1 L) (hp1 : (∃ b o, p1 = some ⟨b, o, none⟩) ∨ p1 = none ∧ c1 = 0) (hda : ∀ i, i < n1 → (HL.el L i).da.size ≤ 2000000)
    (hM : RdG mxc w w.heap.size p2 n2 MS) (hMO : ∀ i, i < n2 → MsgOk (HL.el MS i).1 (HL.el MS i).2 w) (hMZ : ∀ i, i < n2 → (HL.el MS i).1.en.length ≤ 2000000 ∧ (HL.el MS i).2.nm ≤ 2000000 ∧ (HL.el MS i).2.np ≤ 2000000)
    (hF : RdG bcl w w.heap.size p3 n3 FS) :
    Calls Tryz.prog 4 #[.slice p1 n1 c1, .slice p2 n2 c2, .slice p3 n3 c3] w fun e w' => e = .returned (.bool true) ∧ Below w.heap.size w w' := by
  have HAL := Lib.hid (fun W => alive_true W)
  have HLL := Lib.hid hL
  have HM := Lib.hid hM
  have HF := Lib.hid hF
  have HMO := Lib.hid hMO
  have HMZ := Lib.hid hMZ
  have HDA := Lib.hid hda
  have HP1 := Lib.hid hp1
  clear hL hM hF hMO hMZ hda hp1
  go_enter Tryz.func4, Tryz.ntmps4
  go_upto_region 1 with fail
  go_cut [30] (fun s30 wx => ∃ β : Bool, s30 = .bool β ∧ wx = w ∧ Hid (Dec β (¬ ((n1 : Int) ≤ 30 ∧ (n2 : Int) ≤ 40))))
  case first =>
    by_cases hz0 : (n1 : Int) ≤ 30
    case neg =>
      have HN : Hid (Dec true (¬ ((n1 : Int) ≤ 30 ∧ (n2 : Int) ≤ 40))) := Lib.hid (Dec.t (fun h => hz0 h.1))
      have hy0 : 30 < (n1 : Int) := by omega
      have dz0 : decide (30 < (n1 : Int)) = true := decide_eq_true hy0
      go_wp2
      go_meet
      case rel => exact ⟨_, rfl, rfl, HN⟩
    have dz0 : decide (30 < (n1 : Int)) = false := decide_eq_false (by omega)
    by_cases hz1 : (n2 : Int) ≤ 40
    case neg =>
      have HN : Hid (Dec true (¬ ((n1 : Int) ≤ 30 ∧ (n2 : Int) ≤ 40))) := Lib.hid (Dec.t (fun h => hz1 h.2))
      have hy1 : 40 < (n2 : Int) := by omega
      have dz1 : decide (40 < (n2 : Int)) = true := decide_eq_true hy1
      go_wp2
      go_meet
      case rel => exact ⟨_, rfl, rfl, HN⟩
    have dz1 : decide (40 < (n2 : Int)) = false := decide_eq_false (by omega)
    have HN : Hid (Dec false (¬ ((n1 : Int) ≤ 30 ∧ (n2 : Int) ≤ 40))) := Lib.hid (Dec.f (fun h => h ⟨hz0, hz1⟩))
    go_wp2
    go_meet
    case rel => exact ⟨_, rfl, rfl, HN⟩
  case rest =>
  obtain ⟨β, rfl, hwc, HBE⟩ := hcut
  have hwc := hwc.symm
  subst hwc
  cases β with
  | true =>
    have HAC := Lib.hid (HAL.out w)
    go_wp2_with fail
    with_reducible refine (HAC.out).mono ?_
    rintro e w2 ⟨rfl, hb2⟩
    have HB2 := Lib.hid hb2
    go_wp2
    go_ret
    exact ⟨rfl, HB2.out⟩
  | false =>
  have hbd : (n1 : Int) ≤ 30 ∧ (n2 : Int) ≤ 40 := by
    by_cases h9 : (n1 : Int) ≤ 30 ∧ (n2 : Int) ≤ 40
    · exact h9
    · have := HBE.out.2 h9; cases this
  have hn1 : n1 ≤ 30 := by omega
  have hn2 : n2 ≤ 40 := by omega
  clear HBE hbd
  obtain ⟨tl, htl⟩ : ∃ tl, tl = (lastS 0 0 L).2 := ⟨_, rfl⟩
  have HTL := Lib.hid htl
  clear htl
  have hl1 := HLL.out.1
  go_upto_region 4 with fail
  go_upto_if 34 with fail
  go_cut [7] (fun s7 wx => s7 = .int .i64 tl ∧ wx = w)
  case first =>
    by_cases h0 : 0 < n1
    · obtain ⟨b, o, e, hb, hc⟩ := HLL.out.2 h0
      subst e
      have ct := row_cell (size := 4) ecells_length hl1 hc (n1 - 1) 1 (by omega) (.int .i64 (HL.el L (n1 - 1)).tm) rfl (by omega)
      have hte : tl = (HL.el L (n1 - 1)).tm := by rw [HTL.out, last_el L (by omega), hl1]
      rw [← hte, ← Nat.add_assoc] at ct
      have hsub : IntKind.i64.wrap ((n1 : Int) - 1) = ((n1 - 1 : Nat) : Int) := by rw [show ((n1 - 1 : Nat) : Int) = (n1 : Int) - 1 by omega]; exact IntWalk.i64_in _ (by omega)
      have hlt : n1 - 1 < n1 := by omega
      clear hc hte
      generalize hkk : n1 - 1 = kk at *
      go_wp2
      go_meet
      case rel => exact ⟨rfl, rfl⟩
    · have HT0 : Hid (tl = 0) := Lib.hid (by
        have hL0 : L = [] := List.eq_nil_of_length_eq_zero (by omega)
        rw [HTL.out, hL0]; rfl)
      have h00 : ¬ (0 : Int) < (n1 : Int) := by omega
      go_wp2
      go_meet
      case rel => exact ⟨by rw [HT0.out], rfl⟩
  case rest =>
  obtain ⟨rfl, hwc⟩ := hcut
  have hwc := hwc.symm
  subst hwc
  have HBA : Hid (Below w.heap.size w (w.alloc (.cells #[.int .i64 1, .int .i64 2, .int .i64 3] 3))) := Lib.hid ((Below.refl _ w).alloc (Nat.le_refl _) _)
  have HIF : Hid (RdI (w.alloc (.cells #[.int .i64 1, .int .i64 2, .int .i64 3] 3)) (w.alloc (.cells #[.int .i64 1, .int .i64 2, .int .i64 3] 3)).heap.size (some ⟨w.heap.size, 0, none⟩) 3 [1, 2, 3]) := Lib.hid (rd_new w [1, 2, 3] _)
  have HE1 := Lib.hid (rdg_wide (HLL.out.below HBA.out) HBA.out.size)
  by_cases hok : newOk 0 0 L = true
  case neg =>
    have hno : newOk 0 0 L = false := by simpa using hok
    have HNW := Lib.hid (rf_new_log 1 (max tl 0) 0 0 0 0 [1, 2, 3] (some ⟨w.heap.size, 0, none⟩) 3 L p1 n1 c1 (by omega) HE1.out (by omega) hno)
    simp only [List.length_cons, List.length_nil, Nat.zero_add, Nat.reduceAdd] at HNW
    clear hok hno
    go_wp2_with fail
    with_reducible refine (HNW.out).mono ?_
    rintro e W2 ⟨rfl, hb2⟩
    have HB2 := Lib.hid (HBA.out.trans (hb2.mono HBA.out.size))
    have HAC := Lib.hid (HAL.out W2)
    clear hb2 HNW
    go_wp2_with fail
    with_reducible refine (HAC.out).mono ?_
    rintro e W3 ⟨rfl, hb3⟩
    have HB3 := Lib.hid (HB2.out.trans (hb3.mono HB2.out.size))
    clear hb3
    go_wp2
    go_ret
    exact ⟨rfl, HB3.out⟩
  case pos =>
  by_cases htm : 1152921504606846976 < max tl 0
  · have HNW := Lib.hid (rf_new_term 1 (max tl 0) 0 0 0 0 [1, 2, 3] (some ⟨w.heap.size, 0, none⟩) 3 L p1 n1 c1 (by omega) HE1.out HP1.out (by omega) HDA.out hok (by omega) (by omega) (by omega) htm)
    simp only [List.length_cons, List.length_nil, Nat.zero_add, Nat.reduceAdd] at HNW
    clear hok htm
    go_wp2_with fail
    with_reducible refine (HNW.out).mono ?_
    rintro e W2 ⟨rfl, hb2⟩
    have HB2 := Lib.hid (HBA.out.trans (hb2.mono HBA.out.size))
    have HAC := Lib.hid (HAL.out W2)
    clear hb2 HNW
    go_wp2_with fail
    with_reducible refine (HAC.out).mono ?_
    rintro e W3 ⟨rfl, hb3⟩
    have HB3 := Lib.hid (HB2.out.trans (hb3.mono HB2.out.size))
    clear hb3
    go_wp2
    go_ret
    exact ⟨rfl, HB3.out⟩
  have hV0 : newR 1 (max tl 0) 0 0 0 0 [1, 2, 3] L ∧ Vt L (new0 1 (max tl 0) 0 0 0 0 [1, 2, 3] L) ∧ RB ((100 + 0 : Nat) : Int) (100 + 0) (new0 1 (max tl 0) 0 0 0 0 [1, 2, 3] L) := by
    have hv123 : CL.Valid [1, 2, 3] := (valid_iff _).1 (by decide)
    have hp := newOk_parts hok
    have hla := follow_last L 0 0 hp.2.2
    have hltm : (lastS 0 0 L).2 ≤ max tl 0 := by rw [← HTL.out]; omega
    refine ⟨⟨hok, ⟨by omega, by omega⟩, by omega, by omega, by omega, by omega, hv123, hltm⟩, ⟨rfl, rfl, rfl, rfl, rfl, rfl, ⟨Int.le_refl _, by show (0 : Int) ≤ 64; omega⟩, rfl⟩, ?_⟩
    exact ⟨⟨by show (1 : Int) ≤ 1; omega, by show (1 : Int) ≤ 64; omega⟩, hok, by show (lastS 0 0 L).1 ≤ _; omega, by omega, by show L.length ≤ _; omega, by omega, (fun e he => by
        have he : e ∈ L := he
        obtain ⟨i, hi⟩ := List.getElem?_of_mem he
        have hi2 : i < L.length := (List.getElem?_eq_some_iff.1 hi).1
        have := HDA.out i (by omega)
        rw [HL.el_eq L i hi2] at hi
        injection hi with hi
        rw [← hi]; exact this), hv123, (fun x hx => absurd hx List.not_mem_nil), List.nodup_nil, ⟨by show 0 ≤ max tl 0; omega, by show max tl 0 ≤ _; omega⟩, ⟨Int.le_refl _, by show (0 : Int) ≤ _; omega⟩, ⟨by show 0 ≤ min (max (0 : Int) 0) (lastS 0 0 L).1; omega, by show min (max (0 : Int) 0) (lastS 0 0 L).1 ≤ _; omega⟩, hltm⟩
  have hlast : (lastS 0 0 L).1 = (n1 : Int) := by rw [follow_last L 0 0 (newOk_parts hok).2.2, hl1]; omega
  have HLA := Lib.hid hlast
  have HNW := Lib.hid (rf_new 1 (max tl 0) 0 0 0 0 [1, 2, 3] (some ⟨w.heap.size, 0, none⟩) 3 L p1 n1 c1 (by omega) (by omega) HIF.out HE1.out HP1.out (by omega) HDA.out hV0.1)
  simp only [List.length_cons, List.length_nil, Nat.zero_add, Nat.reduceAdd] at HNW
  have HV0 := Lib.hid hV0
  clear hok htm hV0 hlast
  go_wp2_with fail
  with_reducible refine (HNW.out).mono ?_
  rintro e W2 ⟨rb, h, B0, rfl, hcl, hB0, hr, hb2⟩
  have HVS : Hid (Vs L w rb B0 (new0 1 (max tl 0) 0 0 0 0 [1, 2, 3] L) h (.slice none 0 0) (.slice none 0 0) [] [] 0 W2) := Lib.hid ⟨hcl, hr, HV0.out.2.2, HV0.out.2.1, ⟨rfl, fun j hj => absurd hj (by show ¬ j < 0; omega)⟩, World.ownsRow_nil _ _ _ _, World.ownsRow_nil _ _ _ _, (fun g e => by cases e), (fun g e => by cases e), (fun g e => by cases e), Nat.le_trans HBA.out.size hB0, HBA.out.trans (hb2.mono HBA.out.size)⟩
  clear hcl hB0 hr hb2 HNW HV0 HIF HE1 HBA
  generalize new0 1 (max tl 0) 0 0 0 0 [1, 2, 3] L = s0 at *
  go_wp2
  go_loopw [8, 10, 11, 12] (fun rv tv vv iv wr => ∃ (i rb B0 : Nat) (s : RS) (h : Hd) (TL VL : List Int), i ≤ n2 ∧ rv = .pointer (some ⟨rb, 0, none⟩) ∧ iv = .int .i64 (i : Int) ∧ Hid (Vs L w rb B0 s h tv vv TL VL i wr ∧ TL.length ≤ i)) (fun _ _ _ iv _ => n2 - (intOf iv).toNat)
  case atStart => exact ⟨0, rb, B0, s0, h, [], [], Nat.zero_le _, rfl, rfl, Lib.hid ⟨HVS.out, Nat.le_refl _⟩⟩
  case round =>
    obtain ⟨i, rb, B0, s, h, TL, VL, hi, rfl, rfl, HVN⟩ := hrel
    have HV := Lib.hid HVN.out.1
    have HTN := Lib.hid HVN.out.2
    clear HVN
    by_cases hlt : i < n2
    case neg =>
      have hltI : ¬ ((i : Int) < (n2 : Int)) := by omega
      have HAC := Lib.hid (HAL.out wr)
      have HBW := Lib.hid HV.out.bel
      go_wp2_with fail
      with_reducible refine (HAC.out).mono ?_
      rintro e W4 ⟨rfl, hb4⟩
      have HBF := Lib.hid (HBW.out.trans (hb4.mono HBW.out.size))
      clear hb4
      go_wp2
      go_ret
      exact ⟨rfl, HBF.out⟩
    case pos =>
    have hltI : (i : Int) < (n2 : Int) := by omega
    obtain ⟨pb, po, hpe, hpb, hpc⟩ := HM.out.2 (by omega)
    subst hpe
    have HZO := Lib.hid (HMO.out i hlt)
    have HZZ := Lib.hid (HMZ.out i hlt)
    have hcz : ∀ j u, j < 14 → (mxc (HL.el MS i))[j]? = some u → wr.cell? ⟨pb, po + i * 14 + j, none⟩ = some u := fun j u hj hu => by
      have h1 := row_cell (size := 14) mxc_len HM.out.1 hpc i j hlt u hu hj
      rw [← Nat.add_assoc] at h1
      exact (HV.out.bel.cell (p := ⟨pb, po + i * 14 + j, none⟩) hpb).trans h1
    generalize HL.el MS i = mx at *
    obtain ⟨m, x⟩ := mx
    dsimp only at HZO HZZ
    have z0 : wr.cell? ⟨pb, po + i * 14, none⟩ = some (.int .i64 m.kd) := hcz 0 _ (by omega) rfl
    have z1 : wr.cell? ⟨pb, po + i * 14 + 1, none⟩ = some (.int .i64 m.fr) := hcz 1 _ (by omega) rfl
    have z2 : wr.cell? ⟨pb, po + i * 14 + 2, none⟩ = some (.int .i64 m.tq) := hcz 2 _ (by omega) rfl
    have z3 : wr.cell? ⟨pb, po + i * 14 + 3, none⟩ = some (.int .i64 m.tm) := hcz 3 _ (by omega) rfl
    have z4 : wr.cell? ⟨pb, po + i * 14 + 4, none⟩ = some (.int .i64 m.ix) := hcz 4 _ (by omega) rfl
    have z5 : wr.cell? ⟨pb, po + i * 14 + 5, none⟩ = some (.int .i64 m.lt) := hcz 5 _ (by omega) rfl
    have z6 : wr.cell? ⟨pb, po + i * 14 + 6, none⟩ = some (.int .i64 m.cm) := hcz 6 _ (by omega) rfl
    have z7 : wr.cell? ⟨pb, po + i * 14 + 7, none⟩ = some (.int .i64 m.rd) := hcz 7 _ (by omega) rfl
    have z8 : wr.cell? ⟨pb, po + i * 14 + 8, none⟩ = some (.bool m.ok) := hcz 8 _ (by omega) rfl
    have z9 : wr.cell? ⟨pb, po + i * 14 + 9, none⟩ = some (.bool x.dn) := hcz 9 _ (by omega) rfl
    have z10 : wr.cell? ⟨pb, po + i * 14 + 10, none⟩ = some (.slice x.pe m.en.length x.ce) := hcz 10 _ (by omega) rfl
    have z11 : wr.cell? ⟨pb, po + i * 14 + 11, none⟩ = some (.slice x.pm x.nm x.cm) := hcz 11 _ (by omega) rfl
    have z12 : wr.cell? ⟨pb, po + i * 14 + 12, none⟩ = some (.int .i64 x.of) := hcz 12 _ (by omega) rfl
    have z13 : wr.cell? ⟨pb, po + i * 14 + 13, none⟩ = some (.slice x.pp x.np x.cp) := hcz 13 _ (by omega) rfl
    clear hcz
    go_upto_region 16 with fail
    have X0 := CBox.fresh wr [.int .i64 m.kd, .int .i64 m.fr, .int .i64 m.tq, .int .i64 m.tm, .int .i64 m.ix, .int .i64 m.lt, .int .i64 m.cm, .int .i64 m.rd, .bool m.ok, .bool x.dn, .slice x.pe m.en.length x.ce, .slice x.pm x.nm x.cm, .int .i64 x.of, .slice x.pp x.np x.cp] 48
    have hb1 : Below wr.heap.size wr (wr.alloc (.cells [.int .i64 m.kd, .int .i64 m.fr, .int .i64 m.tq, .int .i64 m.tm, .int .i64 m.ix, .int .i64 m.lt, .int .i64 m.cm, .int .i64 m.rd, .bool m.ok, .bool x.dn, .slice x.pe m.en.length x.ce, .slice x.pm x.nm x.cm, .int .i64 x.of, .slice x.pp x.np x.cp].toArray 48)) := (Below.refl _ wr).alloc (Nat.le_refl _) _
    dsimp only [List.toArray] at X0 hb1
    clear z0 z1 z2 z3 z4 z5 z6 z7 z8 z9 z10 z11 z12 z13
    generalize wr.alloc (.cells #[.int .i64 m.kd, .int .i64 m.fr, .int .i64 m.tq, .int .i64 m.tm, .int .i64 m.ix, .int .i64 m.lt, .int .i64 m.cm, .int .i64 m.rd, .bool m.ok, .bool x.dn, .slice x.pe m.en.length x.ce, .slice x.pm x.nm x.cm, .int .i64 x.of, .slice x.pp x.np x.cp] 48) = W1 at *
    obtain ⟨b13, hb13⟩ : ∃ b13, b13 = wr.heap.size := ⟨_, rfl⟩
    rw [← hb13] at X0 ⊢
    have HX1 := Lib.hid X0
    have HB1 := Lib.hid hb1
    have HE13 := Lib.hid hb13
    clear X0 hb1 hb13
    have a0 := (HX1.out).1 0 _ rfl
    have a1 := (HX1.out).1 1 _ rfl
    have a2 := (HX1.out).1 2 _ rfl
    have a3 := (HX1.out).1 3 _ rfl
    have a4 := (HX1.out).1 4 _ rfl
    have a5 := (HX1.out).1 5 _ rfl
    have a6 := (HX1.out).1 6 _ rfl
    have a7 := (HX1.out).1 7 _ rfl
    have a8 := (HX1.out).1 8 _ rfl
    have a9 := (HX1.out).1 9 _ rfl
    have a10 := (HX1.out).1 10 _ rfl
    have a11 := (HX1.out).1 11 _ rfl
    have a12 := (HX1.out).1 12 _ rfl
    have a13 := (HX1.out).1 13 _ rfl
    have hw1 : IntKind.i64.wrap ((m.en.length : Int) + (x.nm : Int)) = (m.en.length : Int) + (x.nm : Int) := IntWalk.i64_in _ (by have := HZZ.out; omega)
    have hw2 : IntKind.i64.wrap ((m.en.length : Int) + (x.nm : Int) + (x.np : Int)) = (m.en.length : Int) + (x.nm : Int) + (x.np : Int) := IntWalk.i64_in _ (by have := HZZ.out; omega)
    by_cases hz : 0 < m.en.length + x.nm + x.np
    · have hzI : (0 : Int) < (m.en.length : Int) + (x.nm : Int) + (x.np : Int) := by omega
      have HBF := Lib.hid (HV.out.below HB1.out).bel
      go_wp2
      go_ret
      exact ⟨rfl, HBF.out⟩
    have hzI : (m.en.length : Int) + (x.nm : Int) + (x.np : Int) ≤ 0 := by omega
    have HEN : Hid (m.en = []) := Lib.hid (List.eq_nil_of_length_eq_zero (by omega))
    have HX2 := Lib.hid ((HX1.out.set 0 (.int .i64 1) (by show 0 < 14; omega)).set 2 (.int .i64 1) (by show 2 < 14; omega))
    have HB2 : Hid (Below wr.heap.size wr ((W1.setCell ⟨b13, 0, none⟩ (.int .i64 1)).setCell ⟨b13, 2, none⟩ (.int .i64 1))) := Lib.hid ((HB1.out.setCell (p := ⟨b13, 0, none⟩) (by have := HE13.out; show wr.heap.size ≤ b13; omega) _).setCell (p := ⟨b13, 2, none⟩) (by have := HE13.out; show wr.heap.size ≤ b13; omega) _)
    have f0 := HX1.out.2.1 0 (by show 0 < 14; omega)
    have f2 := HX1.out.2.1 2 (by show 2 < 14; omega)
    dsimp only [List.set] at HX2
    go_upto_region 19 with fail
    clear a0 a1 a2 a3 a4 a5 a6 a7 a8 a9 a10 a11 a12 a13 f0 f2 hw1 hw2 hz hzI
    generalize (W1.setCell ⟨b13, 0, none⟩ (.int .i64 1)).setCell ⟨b13, 2, none⟩ (.int .i64 1) = W2 at *
    have HV2 := Lib.hid (HV.out.below HB2.out)
    have HNF : Hid (¬ Fo rb h b13) := Lib.hid (fun e => by have := (HV.out.rf.lt e).2; have := HE13.out; omega)
    have HTV2 : Hid ((∀ g, u10.ownBlock = some g → g < b13) ∧ (∀ g, u11.ownBlock = some g → g < b13)) := Lib.hid ⟨fun g hg => by have := (HV.out.t.lt g hg).2; have := HE13.out; omega, fun g hg => by have := (HV.out.v.lt g hg).2; have := HE13.out; omega⟩
    clear HX1 HB1 HB2 HV
    (try clear W1)
    have HST := Lib.hid (rf_step { m with kd := 1, tq := 1 } x HV2.out.rf HV2.out.bd (by rw [show ({ m with kd := 1, tq := 1 } : Mg).en.length = 0 by show m.en.length = 0; rw [HEN.out]; rfl]; omega) (by rw [show ({ m with kd := 1, tq := 1 } : Mg).en.length = 0 by show m.en.length = 0; rw [HEN.out]; rfl]; omega) (by rw [HV2.out.vt.votes]; exact Nat.zero_le _) HV2.out.cl HV2.out.vt.out ⟨⟨rfl, fun h0 => by
        have h0 : 0 < m.en.length := h0
        rw [HEN.out] at h0
        exact absurd h0 (by show ¬ 0 < 0; omega)⟩, HZO.out.ecap.1, (fun e he => by
        have he : e ∈ m.en := he
        rw [HEN.out] at he
        exact absurd he List.not_mem_nil), (fun h0 => by
        have h0 : 0 < m.en.length := h0
        rw [HEN.out] at h0
        exact absurd h0 (by show ¬ 0 < 0; omega))⟩ (bounds_i64 HZO.out.int.2.2.2.2.1).1 (bounds_i64 HZO.out.int.2.2.2.2.1).2)
    have HSP := Lib.hid (vote_step HV2.out.vt { m with kd := 1, tq := 1 } rfl)
    have HBS : Hid (RB ((100 + (i + 1) : Nat) : Int) (100 + (i + 1)) (s.stepF { m with kd := 1, tq := 1 })) := Lib.hid (by
      have h := (HV2.out.bd.stepV { m with kd := 1, tq := 1 } HEN.out (by omega) (by omega)).fin
      rw [show ((100 + i : Nat) : Int) + 1 = ((100 + (i + 1) : Nat) : Int) by omega] at h
      exact h)
    have HRC := Lib.hid (HV2.out.rc.step HSP.out.2.1 HSP.out.2.2.1)
    unfold mxval at HST
    have a0 := (HX2.out).1 0 _ rfl
    have a1 := (HX2.out).1 1 _ rfl
    have a2 := (HX2.out).1 2 _ rfl
    have a3 := (HX2.out).1 3 _ rfl
    have a4 := (HX2.out).1 4 _ rfl
    have a5 := (HX2.out).1 5 _ rfl
    have a6 := (HX2.out).1 6 _ rfl
    have a7 := (HX2.out).1 7 _ rfl
    have a8 := (HX2.out).1 8 _ rfl
    have a9 := (HX2.out).1 9 _ rfl
    have a10 := (HX2.out).1 10 _ rfl
    have a11 := (HX2.out).1 11 _ rfl
    have a12 := (HX2.out).1 12 _ rfl
    have a13 := (HX2.out).1 13 _ rfl
    go_wp2_with fail
    with_reducible refine (HST.out).mono ?_
    rintro e W3 ⟨v3, h3, rfl, hcl3, hr3, hp3, ov, nv, mh, rfl, hmh, ho, _, hnd, _⟩
    obtain ⟨pq, cq, hov⟩ := owns_slice ho
    obtain ⟨pn, cn, hnv⟩ := owns_slice hnd
    subst hov hnv
    have HV3 : Hid (Vs L w rb B0 (s.stepF { m with kd := 1, tq := 1 }) h3 u10 u11 TL VL (i + 1) W3) := Lib.hid (HV2.out.step hcl3 hr3 hp3 HBS.out HSP.out.1 HRC.out)
    have HX3 := Lib.hid (HX2.out.keep hp3.1 HNF.out)
    have HRW := Lib.hid (RdG.of_own ho rfl)
    have HLB := Lib.hid (fun g (hg : (Value.slice pq mh.length cq).ownBlock = some g) => (ho.lt g hg).1)
    have HMS : Hid (mh.map (·.1) = (s.step { m with kd := 1, tq := 1 }).out.ms) := Lib.hid hmh
    have HSZ23 := Lib.hid hp3.1.size
    clear hcl3 hr3 hp3 hmh ho hnd HST HBS HRC HX2 a0 a1 a2 a3 a4 a5 a6 a7 a8 a9 a10 a11 a12 a13
    generalize (s.step { m with kd := 1, tq := 1 }).told.hd = ohd at *
    generalize (s.step { m with kd := 1, tq := 1 }).told.fr = ofr at *
    generalize (s.step { m with kd := 1, tq := 1 }).told.nd.length = nn at *
    generalize (s.step { m with kd := 1, tq := 1 }).out.ms = msl at *
    generalize s.stepF { m with kd := 1, tq := 1 } = s3 at *
    go_upto_region 20 with fail
    have Z0 := CBox.fresh W3 [.slice pq mh.length cq, .bool ohd, .int .i64 ofr, .slice pn nn cn] 37
    have hb4 : Below W3.heap.size W3 (W3.alloc (.cells [.slice pq mh.length cq, .bool ohd, .int .i64 ofr, .slice pn nn cn].toArray 37)) := (Below.refl _ W3).alloc (Nat.le_refl _) _
    dsimp only [List.toArray] at Z0 hb4
    generalize W3.alloc (.cells #[.slice pq mh.length cq, .bool ohd, .int .i64 ofr, .slice pn nn cn] 37) = W4 at *
    have HV4 := Lib.hid (HV3.out.below hb4)
    have HX4 := Lib.hid (HX3.out.below hb4)
    have HRW4 := Lib.hid (rdg_wide (HRW.out.below hb4) hb4.size)
    have HN4 : Hid (b13 ≠ W3.heap.size ∧ (∀ g, u10.ownBlock = some g → g ≠ W3.heap.size ∧ g ≠ b13) ∧ (∀ g, u11.ownBlock = some g → g ≠ W3.heap.size ∧ g ≠ b13)) := Lib.hid ⟨Nat.ne_of_lt HX3.out.2.2, fun g hg => ⟨Nat.ne_of_lt (HV3.out.t.lt g hg).2, Nat.ne_of_lt (HTV2.out.1 g hg)⟩, fun g hg => ⟨Nat.ne_of_lt (HV3.out.v.lt g hg).2, Nat.ne_of_lt (HTV2.out.2 g hg)⟩⟩
    generalize W3.heap.size = b14 at *
    have HZ4 := Lib.hid Z0
    clear Z0 hb4 HV3 HX3 HRW
    (try clear W3)
    have hml : mh.length ≤ 1 := by
      have h := congrArg List.length HMS.out
      rw [List.length_map] at h
      rcases HSP.out.2.2.2 with e | ⟨g, e, _⟩
      · rw [e] at h
        have h : mh.length = 0 := h
        omega
      · rw [e] at h
        have h : mh.length = 1 := h
        omega
    go_wp2
    go_loopw [10, 11, 15] (fun tv vv kv wr => ∃ (k : Nat) (TL VL : List Int), k ≤ mh.length ∧ kv = .int .i64 (k : Int) ∧ TL.length ≤ i + k ∧ Hid (Vs L w rb B0 s3 h3 tv vv TL VL (i + 1) wr ∧ CBox b14 [.slice pq mh.length cq, .bool ohd, .int .i64 ofr, .slice pn nn cn] wr ∧ CBox b13 [.int .i64 1, .int .i64 m.fr, .int .i64 1, .int .i64 m.tm, .int .i64 m.ix, .int .i64 m.lt, .int .i64 m.cm, .int .i64 m.rd, .bool m.ok, .bool x.dn, .slice x.pe m.en.length x.ce, .slice x.pm x.nm x.cm, .int .i64 x.of, .slice x.pp x.np x.cp] wr ∧ (k = 0 → RdG mcells wr wr.heap.size pq mh.length mh ∧ (∀ g, tv.ownBlock = some g → g ≠ b14 ∧ g ≠ b13) ∧ (∀ g, vv.ownBlock = some g → g ≠ b14 ∧ g ≠ b13)))) (fun _ _ kv _ => mh.length - (intOf kv).toNat)
    case atStart => exact ⟨0, TL, VL, Nat.zero_le _, rfl, HTN.out, Lib.hid ⟨HV4.out, HZ4.out, HX4.out, fun _ => ⟨HRW4.out, HN4.out.2.1, HN4.out.2.2⟩⟩⟩
    case round =>
      obtain ⟨k, TL5, VL5, hk, rfl, htn5, HK⟩ := hrel
      have t0 := HK.out.2.1.1 0 _ rfl
      by_cases hkl : k < mh.length
      case neg =>
        have hkI : (mh.length : Int) ≤ (k : Int) := by omega
        have HVK := Lib.hid HK.out.1
        have htn6 : TL5.length ≤ i + 1 := by omega
        have hwi : IntKind.i64.wrap ((i : Int) + 1) = (i : Int) + 1 := IntWalk.i64_in _ (by omega)
        have HFR : Hid (i < n3 → ∃ (b o : Nat) (y : Bool), p3 = some ⟨b, o, none⟩ ∧ wr.cell? ⟨b, o + i, none⟩ = some (.bool y)) := Lib.hid (fun h3 => by
          obtain ⟨b, o, e, hb, hc⟩ := HF.out.2 (by omega)
          have h1 := row_cell (size := 1) (fun _ => rfl) HF.out.1 hc i 0 h3 (.bool (HL.el FS i)) rfl (by omega)
          rw [show i * 1 + 0 = i by omega] at h1
          exact ⟨b, o, _, e, (HVK.out.bel.cell (p := ⟨b, o + i, none⟩) hb).trans h1⟩)
        clear HK
        go_upto_region 34 with fail
        clear t0
        go_cut [180] (fun s180 wx => ∃ β : Bool, s180 = .bool β ∧ wx = wr)
        case first =>
          by_cases h3 : i < n3
          · have h3I : (i : Int) < (n3 : Int) := by omega
            obtain ⟨b, o, y, e, hcf⟩ := HFR.out h3
            subst e
            go_wp2
            go_meet
            case rel => exact ⟨_, rfl, rfl⟩
          · have h3I : ¬ (i : Int) < (n3 : Int) := by omega
            go_wp2
            go_meet
            case rel => exact ⟨_, rfl, rfl⟩
        case rest =>
        obtain ⟨β, rfl, hwx⟩ := hcut
        have hwx := hwx.symm
        subst hwx
        clear HFR
        cases β with
        | false =>
          have HFv := Lib.hid (And.intro HVK.out htn6)
          go_wp2
          go_roundw
          case rel => exact ⟨i + 1, rb, B0, s3, h3, TL5, VL5, by omega, rfl, by go_num, HFv⟩
          case measure => simp [intOf]; omega
        | true =>
        as_aux_lemma =>
          have HSV := Lib.hid (rf_state HVK.out.rf HVK.out.bd)
          go_wp2_with fail
          with_reducible refine (HSV.out).mono ?_
          rintro e W7 ⟨v7, rfl, ho7, hb7⟩
          obtain ⟨p7, c7, hv7⟩ := owns_slice ho7
          subst hv7
          have HV7 := Lib.hid (HVK.out.below hb7)
          clear ho7 hb7 HSV HVK
          unfold stateV
          generalize s3.all.length = n7 at *
          generalize (lastS s3.b s3.t s3.l).1 = la7 at *
          generalize (lastS s3.b s3.t s3.l).2 = lt7 at *
          go_upto_region 36 with fail
          have Y0 := CBox.fresh W7 [.int .i64 s3.id, .int .i64 s3.role, .int .i64 s3.lead, .int .i64 s3.term, .int .i64 s3.vote, .int .i64 s3.commit, .int .i64 s3.b, .int .i64 la7, .int .i64 lt7, .int .i64 s3.elapsed, .int .i64 s3.timeout, .int .i64 s3.round, .slice p7 n7 c7] 41
          have hb8 : Below W7.heap.size W7 (W7.alloc (.cells [.int .i64 s3.id, .int .i64 s3.role, .int .i64 s3.lead, .int .i64 s3.term, .int .i64 s3.vote, .int .i64 s3.commit, .int .i64 s3.b, .int .i64 la7, .int .i64 lt7, .int .i64 s3.elapsed, .int .i64 s3.timeout, .int .i64 s3.round, .slice p7 n7 c7].toArray 41)) := (Below.refl _ W7).alloc (Nat.le_refl _) _
          dsimp only [List.toArray] at Y0 hb8
          generalize W7.alloc (.cells #[.int .i64 s3.id, .int .i64 s3.role, .int .i64 s3.lead, .int .i64 s3.term, .int .i64 s3.vote, .int .i64 s3.commit, .int .i64 s3.b, .int .i64 la7, .int .i64 lt7, .int .i64 s3.elapsed, .int .i64 s3.timeout, .int .i64 s3.round, .slice p7 n7 c7] 41) = W8 at *
          have HV8 := Lib.hid (HV7.out.below hb8)
          generalize W7.heap.size = b20 at *
          have HY8 := Lib.hid Y0
          clear Y0 hb8 HV7
          (try clear W7)
          have y3 := HY8.out.1 3 _ rfl
          have y4 := HY8.out.1 4 _ rfl
          have y5 := HY8.out.1 5 _ rfl
          have HVN := Lib.hid (vote_new HV8.out.vt HV8.out.bd)
          have HBA : Hid (Below W8.heap.size W8 (W8.alloc (.cells #[.int .i64 1, .int .i64 2, .int .i64 3] 3))) := Lib.hid ((Below.refl _ W8).alloc (Nat.le_refl _) _)
          have HIF : Hid (RdI (W8.alloc (.cells #[.int .i64 1, .int .i64 2, .int .i64 3] 3)) (W8.alloc (.cells #[.int .i64 1, .int .i64 2, .int .i64 3] 3)).heap.size (some ⟨W8.heap.size, 0, none⟩) 3 [1, 2, 3]) := Lib.hid (rd_new W8 [1, 2, 3] _)
          have HV9 := Lib.hid (HV8.out.below HBA.out)
          have HE1 := Lib.hid (rdg_wide (HLL.out.below HV9.out.bel) HV9.out.bel.size)
          have hcm := HV8.out.bd.commit
          have hbg := HV8.out.bd.big
          have HNW := Lib.hid (rf_new 1 s3.term s3.vote s3.commit 0 0 [1, 2, 3] (some ⟨W8.heap.size, 0, none⟩) 3 L p1 n1 c1 (by omega) (by omega) HIF.out HE1.out HP1.out (by omega) HDA.out HVN.out.1)
          simp only [List.length_cons, List.length_nil, Nat.zero_add, Nat.reduceAdd] at HNW
          go_wp2_with fail
          with_reducible refine (HNW.out).mono ?_
          rintro e W10 ⟨rb', h', B0', rfl, hcl', hB0', hr', hb10⟩
          have HFv : Hid (Vs L w rb' B0' (new0 1 s3.term s3.vote s3.commit 0 0 [1, 2, 3] L) h' _ _ TL5 VL5 (i + 1) W10 ∧ TL5.length ≤ i + 1) := Lib.hid ⟨⟨hcl', hr', HVN.out.2.2, HVN.out.2.1, HV9.out.rc.step (Int.le_refl _) (fun _ _ => rfl), (Fr.of_all (S := fun _ => False) hb10).owns HV9.out.t (fun _ _ h => h), (Fr.of_all (S := fun _ => False) hb10).owns HV9.out.v (fun _ _ h => h), fun g hg hf => by have := (HV9.out.t.lt g hg).2; have := (hr'.lt hf).1; omega, fun g hg hf => by have := (HV9.out.v.lt g hg).2; have := (hr'.lt hf).1; omega, HV9.out.ap, Nat.le_trans HV9.out.bel.size hB0', HV9.out.bel.trans (hb10.mono HV9.out.bel.size)⟩, htn6⟩
          clear hcl' hB0' hr' hb10 HNW y3 y4 y5 HVN
          go_wp2
          go_roundw
          case rel => exact ⟨i + 1, rb', B0', _, h', TL5, VL5, by omega, rfl, by go_num, HFv⟩
          case measure => simp [intOf]; omega
      case pos =>
      have hk0 : k = 0 := by omega
      have hkI : (k : Int) < (mh.length : Int) := by omega
      obtain ⟨g, hms, hfr1, hgi⟩ : ∃ g, msl = [vmsg s3 { m with kd := 1, tq := 1 } g] ∧ 1 ≤ m.fr ∧ (g = true → s3.vote = m.fr ∧ newerS 0 0 L m.ix m.lt = true) := by
        rcases HSP.out.2.2.2 with e | e
        · have h := congrArg List.length HMS.out
          rw [List.length_map, e] at h
          have h : mh.length = 0 := h
          omega
        · exact e
      obtain ⟨hrw, hta, hva⟩ := HK.out.2.2.2 hk0
      obtain ⟨bq, oq, hqe, hqb, hqc⟩ := hrw.2 (by omega)
      subst hqe
      have hy : (HL.el mh k).1 = vmsg s3 { m with kd := 1, tq := 1 } g := by
        have h1 : (mh.map (·.1))[k]? = some (HL.el mh k).1 := by rw [List.getElem?_map, HL.el_eq mh k hkl]; rfl
        rw [HMS.out, hms, hk0] at h1
        injection h1 with h1
        rw [hk0]
        exact h1.symm
      have hcy : ∀ j u, j < 14 → (mcells (HL.el mh k))[j]? = some u → wr.cell? ⟨bq, oq + k * 14 + j, none⟩ = some u := fun j u hj hu => by
        have h1 := row_cell (size := 14) mcells_length rfl hqc k j hkl u hu hj
        rw [← Nat.add_assoc] at h1
        exact h1
      have y0 : wr.cell? ⟨bq, oq + k * 14, none⟩ = some (.int .i64 2) := hcy 0 _ (by omega) (by unfold mcells; rw [hy]; rfl)
      have y2 : wr.cell? ⟨bq, oq + k * 14 + 2, none⟩ = some (.int .i64 m.fr) := hcy 2 _ (by omega) (by unfold mcells; rw [hy]; rfl)
      have y3 : wr.cell? ⟨bq, oq + k * 14 + 3, none⟩ = some (.int .i64 s3.term) := hcy 3 _ (by omega) (by unfold mcells; rw [hy]; rfl)
      have y8 : wr.cell? ⟨bq, oq + k * 14 + 8, none⟩ = some (.bool g) := hcy 8 _ (by omega) (by unfold mcells; rw [hy]; rfl)
      have HY := Lib.hid (And.intro hrw (And.intro hta hva))
      have HQB := Lib.hid hqb
      have HGI := Lib.hid (And.intro hfr1 hgi)
      have hwk : IntKind.i64.wrap ((k : Int) + 1) = (k : Int) + 1 := IntWalk.i64_in _ (by omega)
      have hk1 : k + 1 ≠ 0 := by omega
      have hkm : k + 1 ≤ mh.length := by omega
      have HK0 := Lib.hid hk0
      clear hy hcy hqc hms hrw hta hva hfr1 hgi hk0
      cases g with
      | false =>
        have HFk := Lib.hid (And.intro HK.out.1 (And.intro HK.out.2.1 HK.out.2.2.1))
        go_wp2
        go_roundw
        case rel => exact ⟨k + 1, TL5, VL5, hkm, by go_num, by omega, Lib.hid ⟨HFk.out.1, HFk.out.2.1, HFk.out.2.2, fun e => absurd e hk1⟩⟩
        case measure => simp [intOf]; omega
      | true =>
        as_aux_lemma =>
          obtain ⟨hvt, hnw⟩ := HGI.out.2 rfl
          go_upto_region 24 with fail
          have q14 : ∀ q : Later wr, q.1.cell? ⟨b14, 0, none⟩ = some (.slice (some ⟨bq, oq, none⟩) mh.length cq) := fun q => (HK.out.2.1.below q.2).1 0 _ rfl
          have r2 : ∀ q : Later wr, q.1.cell? ⟨bq, oq + k * 14 + 2, none⟩ = some (.int .i64 m.fr) := fun q => (q.2.cell (p := ⟨bq, oq + k * 14 + 2, none⟩) HQB.out).trans y2
          have r3 : ∀ q : Later wr, q.1.cell? ⟨bq, oq + k * 14 + 3, none⟩ = some (.int .i64 s3.term) := fun q => (q.2.cell (p := ⟨bq, oq + k * 14 + 3, none⟩) HQB.out).trans y3
          clear y0 y2 y3 y8 t0
          refine wp_region_later (by kernel_rfl) (by kernel_rfl) ?_
          repeat (go_big_quiet_step (fail))
          refine wpQuiet_nil ?_
          intro W6 hw'
          obtain ⟨⟨wq, hq⟩, hw''⟩ := hw'
          have hwe : W6 = wq := hw''
          clear hw''
          subst hwe
          have HV6 := Lib.hid (HK.out.1.below hq)
          have HZ6 := Lib.hid (HK.out.2.1.below hq)
          have HX6 := Lib.hid (HK.out.2.2.1.below hq)
          clear hq q14 r2 r3
          obtain ⟨pt, ct, hpt⟩ := owns_slice HV6.out.t
          obtain ⟨pv, cv, hpv⟩ := owns_slice HV6.out.v
          subst hpt hpv
          have a1 := HX6.out.1 1 _ rfl
          have a4 := HX6.out.1 4 _ rfl
          have a5 := HX6.out.1 5 _ rfl
          have hncs := newer_cases hnw
          rw [← HTL.out, HLA.out] at hncs
          go_upto_region 26 with fail
          go_cut [142] (fun s142 wx => s142 = .bool false ∧ wx = W6)
          case first =>
            rcases hncs with hgt | ⟨heq, hix⟩
            · have hge : tl ≤ m.lt := by omega
              have hnl : ¬ m.lt = tl := by omega
              have dnl : (m.lt == tl) = false := by simp [hnl]
              clear hnl
              go_wp2
              go_meet
              case rel => exact ⟨by rw [decide_eq_false (by omega)], rfl⟩
            · have hge : tl ≤ m.lt := by omega
              have deq : (m.lt == tl) = true := by simp [heq]
              clear heq
              go_wp2
              go_meet
              case rel => exact ⟨by rw [decide_eq_false (show ¬ m.lt < tl by omega), decide_eq_false (show ¬ m.ix < (n1 : Int) by omega)]; rfl, rfl⟩
          case rest =>
          obtain ⟨rfl, hwx⟩ := hcut
          have hwx := hwx.symm
          subst hwx
          clear a4 a5 hncs
          have HRT := Lib.hid (RdI.of_own HV6.out.t rfl)
          have HRV := Lib.hid (RdI.of_own HV6.out.v rfl)
          have HRC := Lib.hid HV6.out.rc
          have HVT := Lib.hid hvt
          have HLE : Hid (TL5.length = VL5.length) := Lib.hid HV6.out.rc.len
          clear hvt hnw
          go_wp2
          go_loopw [19] (fun jv wx => ∃ j : Nat, j ≤ TL5.length ∧ jv = .int .i64 (j : Int) ∧ wx = W6) (fun jv _ => TL5.length - (intOf jv).toNat)
          case atStart => exact ⟨0, Nat.zero_le _, rfl, rfl⟩
          case round =>
            obtain ⟨j, hj, rfl, hwx⟩ := hrel
            have hwx := hwx.symm
            subst hwx
            by_cases hjl : j < TL5.length
            case pos =>
              have hjI : (j : Int) < (TL5.length : Int) := by omega
              obtain ⟨bt, ot, hte, _, htc⟩ := HRT.out.2 (by omega)
              obtain ⟨bv, ov, hve, _, hvc⟩ := HRV.out.2 (by have := HLE.out; omega)
              subst hte hve
              have ct1 := htc j hjl
              have cv1 := hvc j (by have := HLE.out; omega)
              have hwj : IntKind.i64.wrap ((j : Int) + 1) = (j : Int) + 1 := IntWalk.i64_in _ (by omega)
              have hjv2 : j < VL5.length := by have := HLE.out; omega
              have hjv : (j : Int) < (VL5.length : Int) := by omega
              have hrc := (HRC.out.at' j hjl).2.1
              generalize HL.el TL5 j = e1 at *
              generalize HL.el VL5 j = e2 at *
              clear htc hvc
              by_cases het : e1 = s3.term
              · have hev : e2 = m.fr := (hrc het).trans HVT.out
                subst hev
                have det : (e1 == s3.term) = true := by simp [het]
                clear het hrc
                go_wp2
                go_roundw
                case rel => exact ⟨j + 1, by omega, by go_num, trivial⟩
                case measure => simp [intOf]; omega
              · have det : (e1 == s3.term) = false := by simp [het]
                clear het hrc
                go_wp2
                go_roundw
                case rel => exact ⟨j + 1, by omega, by go_num, trivial⟩
                case measure => simp [intOf]; omega
            case neg =>
            have hjI : (TL5.length : Int) ≤ (j : Int) := by omega
            have HR1 := Lib.hid (one_cells W6 [.int .i64 s3.term] 3 ncells s3.term rfl)
            have HS6 := Lib.hid HV6.out.bel.size
            have HNB := Lib.hid (HY.out.2)
            go_upto_region 33 with fail
            go_wp2_with (at_builtin; (first | (refine RowT.app int_T rfl _ _ rfl w.heap.size (.slice pt TL5.length ct) TL5.length (rowOf ncells TL5) rfl (HV6.out.t.alloc _) rfl HR1.out (fun h => by cases h) (by omega) (by have := HS6.out; simp; omega) ?_; intro v7 w7 hown7 hgr7 hat7; have HO7 := Lib.hid (And.intro hown7 (And.intro hgr7 hat7)); have hF7 : Fr (fun i => (Value.slice pt TL5.length ct).ownBlock = some i) W6 w7 := Fr.trans ((Fr.refl (fun i => (Value.slice pt TL5.length ct).ownBlock = some i) W6).alloc _) (Fr.of_grown hgr7 (S := fun i => (Value.slice pt TL5.length ct).ownBlock = some i) (fun _ _ h => h)) (fun i hi _ => hi); have HV7 := Lib.hid (hF7.owns HV6.out.v (fun g hg e => HV6.out.ap g e hg)); have HR2 := Lib.hid (one_cells w7 [.int .i64 m.fr] 3 ncells m.fr rfl); have HS7 := Lib.hid hF7.size; clear hown7 hgr7 hat7 hF7) | (refine RowT.app int_T rfl _ _ rfl w.heap.size (.slice pv VL5.length cv) VL5.length (rowOf ncells VL5) rfl (HV7.out.alloc _) rfl HR2.out (fun h => by cases h) (by have := HLE.out; omega) (by have := HS6.out; have := HS7.out; simp; omega) ?_; intro v8 w8 hown8 hgr8 hat8)))
            have hgw := HV6.out.grow s3.term m.fr HO7.out.1 HO7.out.2.1 HO7.out.2.2 hown8 hgr8 hat8 (by
              have h := HV6.out.rc.add (by rw [HVT.out]; have := HGI.out.1; omega)
              rw [HVT.out] at h
              exact h)
            have HFk : Hid (Vs L w rb B0 s3 h3 v7 v8 (TL5 ++ [s3.term]) (VL5 ++ [m.fr]) (i + 1) w8) := Lib.hid hgw.1
            have HZ8 := Lib.hid (HZ6.out.keep hgw.2 (fun e => e.elim (fun e => (HNB.out.1 _ e).1 rfl) (fun e => (HNB.out.2 _ e).1 rfl)))
            have HX8 := Lib.hid (HX6.out.keep hgw.2 (fun e => e.elim (fun e => (HNB.out.1 _ e).2 rfl) (fun e => (HNB.out.2 _ e).2 rfl)))
            clear hown8 hgr8 hat8 hgw HO7 HV7 HR1 HR2 HV6 HZ6 HX6
            go_wp2
            go_roundw
            case rel => exact ⟨k + 1, TL5 ++ [s3.term], VL5 ++ [m.fr], hkm, by go_num, by rw [List.length_append]; show TL5.length + 1 ≤ _; omega, Lib.hid ⟨HFk.out, HZ8.out, HX8.out, fun e => absurd e hk1⟩⟩
            case measure => simp [intOf]; omega
end RF
end Go.Proofs.YtaodldagmmephaaGreat
