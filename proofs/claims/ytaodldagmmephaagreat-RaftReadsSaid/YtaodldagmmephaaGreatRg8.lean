/- raft: Acked, and what stays where it lies (printed by gen-acked.py). -/
import Derived.Test.YtaodldagmmephaaGreatRg7
namespace Go.Proofs.YtaodldagmmephaaGreat
open Go.RowKit Go.Maps
namespace RF
section
variable {rb base : Nat} {s : RS} {h : Hd} {w : World} {M : Int} {N : Nat}
structure Hd.Ext2 (h h' : Hd) : Prop where
  mh : h'.mh = h.mh
  ph : ∀ x ∈ h.ph, x ∈ h'.ph
  ov : h'.ov = h.ov
  nv : h'.nv = h.nv
theorem Hd.Ext2.refl (h : Hd) : Hd.Ext2 h h := ⟨rfl, fun _ hx => hx, rfl, rfl⟩
theorem Hd.Ext2.trans {h h1 h2 : Hd} (b : Hd.Ext2 h1 h2) (a : Hd.Ext2 h h1) : Hd.Ext2 h h2 := ⟨b.mh.trans a.mh, fun x hx => b.ph x (a.ph x hx), b.ov.trans a.ov, b.nv.trans a.nv⟩
theorem Hd.Ext2.clean {h h' : Hd} (b : Hd.Ext2 h h') (c : h.clean) : h'.clean := ⟨b.ov.trans c.1, b.mh.trans c.2.1, b.nv.trans c.2.2⟩
set_option maxHeartbeats 2000000 in
set_option maxRecDepth 100000 in
theorem rf_peer2 (id : Int) (H : Rf rb base s h w) (B : RB M N s) (h1 : 1 ≤ id) (h2 : id ≤ 64) : Calls Tryz.prog 85 #[.pointer (some ⟨rb, 0, none⟩), .int .i64 id] w fun e w' => ∃ pb, e = .returned (.pointer (some ⟨pb, 0, none⟩)) ∧ ∃ h', Rf rb base (s.know id) h' w' ∧ (id, (s.know id).pr id, pb) ∈ h'.ph ∧ PS rb h h' w w' ∧ Hd.Ext2 h h' := by
  have hid := id_wf (x := id) (by omega) (by omega)
  have c11 := H.cell 11 rfl
  rcases ptr_look H id hid with ⟨p, pb, hp, hx, hrun⟩ | ⟨hp, hrun⟩
  · have hk : s.know id = s := by unfold RS.know; rw [hp]
    have hpr : s.pr id = p := by unfold RS.pr; rw [hp]; rfl
    rw [hk, hpr]
    have HE := Lib.hid (And.intro H hx)
    clear H B hp hx hk hpr
    go_enter Tryz.func85, Tryz.ntmps85
    go_wp2
    go_ret
    exact ⟨_, rfl, _, HE.out.1, HE.out.2, PS.refl _ _, Hd.Ext2.refl _⟩
  · have hk : s.know id = { s with ps := (id, ⟨s.last + 1, 0, 0⟩) :: s.ps } := by unfold RS.know; rw [hp]
    have hpr : RS.pr { s with ps := (id, ⟨s.last + 1, 0, 0⟩) :: s.ps } id = ⟨s.last + 1, 0, 0⟩ := by unfold RS.pr; rw [pget_cons]; rfl
    rw [hk, hpr]
    have HL := Lib.hid (rf_last H)
    have HH := Lib.hid H
    have hla := B.lastE
    have htop := B.top
    have hbig := B.big
    have hlo := (newOk_parts B.log).1
    have hkn := B.kn
    have hw1 : IntKind.i64.wrap (s.last + 1) = s.last + 1 := IntWalk.i64_in _ (by omega)
    have HST := Lib.hid (fun (h0 : Hd) W pb (HW : Rf rb base s h0 W) hb hlo2 hnew => ptr_store HW id hid ⟨s.last + 1, 0, 0⟩ pb hb hlo2 hnew hp (by omega))
    have HBS := Lib.hid H.bs
    clear H B hp hk hpr hla htop hbig hlo hkn
    generalize s.last = la at *
    go_enter Tryz.func85, Tryz.ntmps85
    go_wp2_with fail
    with_reducible refine (HL.out).mono ?_
    rintro e w1 ⟨rfl, hb1⟩
    have hc := heap_alloc_new w1 (.cells #[.int .i64 (la + 1), .int .i64 0, .int .i64 0] 123)
    have hb2 : Below w.heap.size w (w1.alloc (.cells #[.int .i64 (la + 1), .int .i64 0, .int .i64 0] 123)) := hb1.alloc hb1.size _
    have hbx : boxPr (id, ⟨la + 1, 0, 0⟩, w1.heap.size) (w1.alloc (.cells #[.int .i64 (la + 1), .int .i64 0, .int .i64 0] 123)) := by
      have cc : ∀ k u, (#[Value.int .i64 (la + 1), .int .i64 0, .int .i64 0])[k]? = some u → (w1.alloc (.cells #[.int .i64 (la + 1), .int .i64 0, .int .i64 0] 123)).cell? ⟨w1.heap.size, k, none⟩ = some u := fun k u hu => by
        rw [cell_of_row _ _ _ _ _ _ hc]; exact hu
      exact ⟨cc 0 _ rfl, cc 1 _ rfl, cc 2 _ rfl, fun k _ => frozen_of_row _ _ _ _ _ hc⟩
    have HR2 := HH.out.below hb2
    have hsz := hb1.size
    obtain ⟨w2, hup, hr2, hf2⟩ := HST.out h _ w1.heap.size HR2 hbx (by have := HBS.out; omega) (fun q hq => by have := (part_lt (HH.out.all q) _ hq).2; omega)
    have d11 : (w1.alloc (.cells #[.int .i64 (la + 1), .int .i64 0, .int .i64 0] 123)).cell? ⟨rb, 11, none⟩ = some (.map (some h.mb)) := HR2.cell 11 rfl
    have HE := Lib.hid hr2
    have HPS : Hid (PS rb h { h with ph := (id, ⟨la + 1, 0, 0⟩, w1.heap.size) :: h.ph } w w2) := Lib.hid (by
      refine ⟨Fr.trans (Fr.of_all (S := Fo rb h) hb2) (hf2.mono (T := Fo rb h) (fun _ _ e => ⟨.map, e⟩)) (fun i hi _ => hi), fun q k hk => ?_⟩
      cases q with
      | peers =>
        obtain ⟨x, hx, e⟩ := hk
        rcases List.mem_cons.1 hx with rfl | hx
        · exact .inr (by have e : w1.heap.size = k := e; omega)
        · exact .inl ⟨x, hx, e⟩
      | map => exact .inl hk
      | core => exact .inl hk
      | log => exact .inl hk
      | snap => exact .inl hk
      | votes => exact .inl hk
      | msgs => exact .inl hk
      | ents => exact .inl hk
      | need => exact .inl hk)
    have HB2 := Lib.hid hb2
    clear hc hbx HR2 hr2 hf2 hb1 hb2 HL HST c11 hrun hsz
    go_wp2
    go_ret
    exact ⟨_, rfl, _, HE.out, List.mem_cons_self, HPS.out, ⟨rfl, fun _ hx => List.mem_cons_of_mem _ hx, rfl, rfl⟩⟩
set_option maxHeartbeats 2000000 in
set_option maxRecDepth 100000 in
theorem rf_at_rd2 (own : Int) (H : Rf rb base s h w) (B : RB M N s) :
    Calls Tryz.prog 81 #[.pointer (some ⟨rb, 0, none⟩), .int .i64 own, .func (.func 82) #[] #[]] w fun e w' => e = .returned (.int .i64 (s.far own Pr.rd)) ∧ ∃ h', Rf rb base (s.knowAll s.others) h' w' ∧ PS rb h h' w w' ∧ Hd.Ext2 h h' := by
  have HO := Lib.hid (fun W (hW : Below w.heap.size w W) => rf_others (H.below hW) B)
  have HH := Lib.hid H
  have hon := B.oth
  have HID := Lib.hid B.othId
  have HAL := Lib.hid (fun (W : World) h' (HW : Rf rb base (s.knowAll s.others) h' W) => rf_all HW (B.knowAll s.others (fun i hi => ⟨(B.othId i hi).1, (B.othId i hi).2.1⟩)).da)
  have HV := Lib.hid B.all
  have hne : s.all ≠ [] := fun e => by have := B.all.1; rw [e] at this; simp at this
  have HKB := Lib.hid (fun i => B.knowAll (s.others.take i) (fun x hx => ⟨(B.othId x (List.mem_of_mem_take hx)).1, (B.othId x (List.mem_of_mem_take hx)).2.1⟩))
  unfold RS.far
  have HALE : Hid ((s.knowAll s.others).all = s.all) := Lib.hid (knowAll_all _ _)
  generalize s.others = L at *
  generalize hA : s.all = A at *
  have q0 : ∀ q : Later w, q.1.cell? ⟨rb, 0, none⟩ = some (.int .i64 s.id) := H.q 0 rfl
  clear H B hA
  have c0 := q0 ⟨w, Below.refl _ _⟩
  dsimp only at c0
  clear q0
  go_enter Tryz.func81, Tryz.ntmps81
  go_wp2_with fail
  have hbA : Below w.heap.size w ((w.alloc (.cells #[.int .i64 s.id] 3)).alloc (.cells #[.int .i64 own] 3)) := ((Below.refl _ w).alloc (Nat.le_refl _) _).alloc (by simp) _
  have HBA := Lib.hid hbA
  have hszA : ((w.alloc (.cells #[.int .i64 s.id] 3)).alloc (.cells #[.int .i64 own] 3)).heap.size = w.heap.size + 2 := by simp
  have HOA := Lib.hid (HO.out _ hbA)
  have HI1 : Hid (((w.alloc (.cells #[.int .i64 s.id] 3)).alloc (.cells #[.int .i64 own] 3)).ownsRow w.heap.size 3 1 (.slice (some ⟨w.heap.size, 0, none⟩) 1 1) [s.id].length (rowOf ncells [s.id])) := Lib.hid ((row_fresh w s.id (Nat.le_refl _)).alloc _)
  have HI2 : Hid (((w.alloc (.cells #[.int .i64 s.id] 3)).alloc (.cells #[.int .i64 own] 3)).ownsRow w.heap.size 3 1 (.slice (some ⟨w.heap.size + 1, 0, none⟩) 1 1) [own].length (rowOf ncells [own])) := Lib.hid (by
    have := row_fresh (w.alloc (.cells #[.int .i64 s.id] 3)) own (b := w.heap.size) (by simp)
    rwa [World.size_alloc] at this)
  clear hbA HO c0
  with_reducible refine (HOA.out).mono ?_
  rintro e w2 ⟨q, c, rfl, ho2, hb2⟩
  have HR2 := Lib.hid ((HH.out.below HBA.out).below hb2)
  have HB2 : Hid (Below w.heap.size w w2) := Lib.hid (HBA.out.trans (hb2.mono HBA.out.size))
  have HO2 := Lib.hid ho2
  have HGE : Hid (w.heap.size + 2 ≤ w2.heap.size) := Lib.hid (by have := hb2.size; omega)
  have HLO : Hid (∀ g, (Value.slice q L.length c).ownBlock = some g → w.heap.size + 2 ≤ g) := Lib.hid (fun g hg => by have := (ho2.lt g hg).1; omega)
  obtain ⟨g, hg⟩ : ∃ g, g = (match q with | some a => a.block | none => w.heap.size + 1 + 1) := ⟨_, rfl⟩
  have HG : Hid (w.heap.size + 2 ≤ g ∧ (0 < L.length → q = some ⟨g, 0, none⟩ ∧ g < w2.heap.size)) := Lib.hid (by
    rcases Nat.eq_zero_or_pos L.length with h0 | h0
    · refine ⟨?_, fun h => by omega⟩
      cases q with
      | none => rw [hg]; exact Nat.le_refl _
      | some a => rw [hg]; rcases ho2.2 with ⟨e, _⟩ | ⟨g1, c1, cur, e, h9, _⟩; · cases e
                  · injection e with e _ _; injection e with e; subst e; dsimp only; omega
    · obtain ⟨g1, cap, hgv, hg1, hg2, _⟩ := owns_len ho2 h0
      injection hgv with hgv _ _
      subst hgv
      rw [hg]
      exact ⟨by dsimp only; omega, fun _ => ⟨rfl, hg2⟩⟩)
  have HRow1 : Hid (Row rb h w.heap.size g (.slice (some ⟨w.heap.size, 0, none⟩) 1 1) [s.id] w2) := Lib.hid (row_start HH.out ((Fr.of_all (S := fun _ => False) hb2).owns HI1.out (fun _ _ h => h)) (by have := HG.out.1; omega))
  have HRow2 : Hid (Row rb h w.heap.size g (.slice (some ⟨w.heap.size + 1, 0, none⟩) 1 1) [own] w2) := Lib.hid (row_start HH.out ((Fr.of_all (S := fun _ => False) hb2).owns HI2.out (fun _ _ h => h)) (by have := HG.out.1; omega))
  have HNF : Hid (¬ Fo rb h g) := Lib.hid (fun hf => by have := (HH.out.lt hf).2; have := HG.out.1; omega)
  have HC0 : Hid (∀ k, k < L.length → w2.cell? ⟨g, k, none⟩ = some (.int .i64 (HL.el L k))) := Lib.hid (fun k hk => by
    obtain ⟨b, o, e, _, hc⟩ := (RdI.of_own ho2 rfl).2 (by omega)
    have e2 := (HG.out.2 (by omega)).1
    rw [e2] at e
    injection e with e
    injection e with e1 e2 _
    subst e1 e2
    have := hc k hk
    rwa [Nat.zero_add] at this)
  clear ho2 hb2 HOA HI1 HI2 hg hszA
  go_wp2
  go_loopw [7, 8, 21] (fun v1 v2 iv wr => ∃ (i : Nat) (h' : Hd), i ≤ L.length ∧ iv = .int .i64 i ∧ Hid (Rf rb base (s.knowAll (L.take i)) h' wr ∧ PS rb h h' w wr ∧ Hd.Ext2 h h' ∧ ¬ Fo rb h' g ∧ (0 < L.length → g < wr.heap.size)) ∧ Hid (Row rb h' w.heap.size g v1 (s.id :: L.take i) wr ∧ Row rb h' w.heap.size g v2 (own :: (L.take i).map fun x => Pr.rd ((s.knowAll L).pr x)) wr ∧ ∀ k, v1.ownBlock = some k → v2.ownBlock ≠ some k) ∧ Hid (∀ k, k < L.length → wr.cell? ⟨g, k, none⟩ = some (.int .i64 (HL.el L k)))) (fun _ _ iv _ => L.length - (intOf iv).toNat)
  case atStart => exact ⟨0, h, Nat.zero_le _, rfl, Lib.hid ⟨HR2.out, PS.still HB2.out, Hd.Ext2.refl h, HNF.out, fun h => (HG.out.2 h).2⟩, Lib.hid ⟨HRow1.out, HRow2.out, fun k h1 h2 => by
    have h1 : w.heap.size = k := by injection h1
    have h2 : w.heap.size + 1 = k := by injection h2
    omega⟩, HC0⟩
  case round =>
    clear HRow1 HRow2 HC0 HNF HR2
    obtain ⟨i, h', hi, rfl, HR, HW, HC⟩ := hrel
    by_cases hlt : i < L.length
    · have hltI : (i : Int) < (L.length : Int) := by omega
      have hq := (HG.out.2 (by omega)).1
      subst hq
      have d1 := HC.out i hlt
      have hx := HID.out _ (el_mem hlt)
      have hgl := HR.out.2.2.2.2 (by omega)
      have HTK : Hid (L.take (i + 1) = L.take i ++ [HL.el L i] ∧ s.knowAll (L.take (i + 1)) = (s.knowAll (L.take i)).know (HL.el L i) ∧ ((s.knowAll (L.take i)).know (HL.el L i)).pr (HL.el L i) = (s.knowAll L).pr (HL.el L i)) := Lib.hid ⟨take_snoc hlt, knowAll_take hlt, knowAll_pr hlt⟩
      have hl1 : (s.id :: L.take i).length = i + 1 := by simp; omega
      have hl2 : (own :: (L.take i).map fun x => Pr.rd ((s.knowAll L).pr x)).length = i + 1 := by simp; omega
      obtain ⟨v1p, v1c, hv1⟩ := owns_slice HW.out.1.ow
      obtain ⟨v2p, v2c, hv2⟩ := owns_slice HW.out.2.1.ow
      rw [hl1] at hv1
      rw [hl2] at hv2
      subst hv1 hv2
      have HPE := Lib.hid (fun W h2 (HW2 : Rf rb base (s.knowAll (L.take i)) h2 W) => rf_peer2 (HL.el L i) HW2 (HKB.out i) hx.1 hx.2.1)
      obtain ⟨x, hxe⟩ : ∃ x, x = HL.el L i := ⟨_, rfl⟩
      rw [← hxe] at d1 HTK HPE
      have HL1 := Lib.hid (And.intro hl1 hl2)
      clear hx hxe hl1 hl2
      have HRD1 := Lib.hid (one_cells wr [.int .i64 x] 3 ncells x rfl)
      go_wp2_with (at_builtin; refine RowT.app int_T rfl _ _ rfl w.heap.size (.slice v1p (i + 1) v1c) (i + 1) (rowOf ncells (s.id :: L.take i)) rfl ((by have := HW.out.1.ow; rw [HL1.out.1] at this; exact this.alloc _)) rfl HRD1.out (fun h => by cases h) (by omega) (by have := HR.out.2.1.1.size; simp; omega) ?_; intro v4 w4 hown4 hgr4 hat4)
      have hG4 := Row.grow (x := x) HR.out.1 HW.out.1 hgl (by rw [HL1.out.1]; exact hown4) hgr4 hat4
      obtain ⟨hrow4, hrf4, hf4, hlo4⟩ := hG4
      have hr24 := HW.out.2.1.other hf4 (fun k h1 h2 => HW.out.2.2 k h1 h2)
      have HS4 := Lib.hid (And.intro hrow4 (And.intro hrf4 hr24))
      have HD4 : Hid (∀ k, v4.ownBlock = some k → (Value.slice v2p (i + 1) v2c).ownBlock ≠ some k) := Lib.hid (fun k h1 h2 => by
        rcases hlo4 with e | e
        · exact HW.out.2.2 k (e.symm.trans h1) h2
        · have := e k h1; have := (HW.out.2.1.ow.lt k h2).2; omega)
      have hP4 : PS rb h h' w w4 := ⟨Fr.trans HR.out.2.1.1 hf4 (fun k hk hlt => by have := (HW.out.1.ow.lt k hk).1; omega), HR.out.2.1.2⟩
      have HP4 := Lib.hid hP4
      have HC4 : Hid (∀ k, k < L.length → w4.cell? ⟨g, k, none⟩ = some (.int .i64 (HL.el L k))) := Lib.hid (fun k hk => (hf4.cell (p := ⟨g, k, none⟩) hgl (fun e => HW.out.1.ne e)).trans (HC.out k hk))
      have hgl4 : g < w4.heap.size := Nat.lt_of_lt_of_le hgl hf4.size
      have HP5 := Lib.hid (HPE.out w4 h' hrf4)
      clear hown4 hgr4 hat4 hrow4 hrf4 hr24 hlo4 hP4 hf4 HW HC HRD1 d1 hgl HPE
      with_reducible refine (HP5.out).mono ?_
      rintro e w5 ⟨pb, rfl, h5, hr5, hx5, hp5, hm5⟩
      have HF5 := Lib.hid (of_rd pb _ x w5 (hr5.box hx5))
      have HS5 := Lib.hid (And.intro hr5 (And.intro hp5 hm5))
      have HROW1 := Lib.hid (HS4.out.1.step hp5)
      have HROW2 := Lib.hid (HS4.out.2.2.step hp5)
      have HNG5 : Hid (¬ Fo rb h5 g) := Lib.hid (fun hf => by
        obtain ⟨p, hp⟩ := hf
        rcases hp5.2 p g hp with h9 | h9
        · exact HR.out.2.2.2.1 ⟨p, h9⟩
        · omega)
      have HC5 : Hid (∀ k, k < L.length → w5.cell? ⟨g, k, none⟩ = some (.int .i64 (HL.el L k))) := Lib.hid (fun k hk => (hp5.1.cell (p := ⟨g, k, none⟩) hgl4 (fun e => HR.out.2.2.2.1 e)).trans (HC4.out k hk))
      have hgl5 : g < w5.heap.size := Nat.lt_of_lt_of_le hgl4 hp5.1.size
      have HPP5 := Lib.hid (HP4.out.trans hp5)
      have HMH := Lib.hid (hm5.trans HR.out.2.2.1)
      rw [HTK.out.2.2] at HF5
      obtain ⟨y, hy⟩ : ∃ y, y = Pr.rd ((s.knowAll L).pr x) := ⟨_, rfl⟩
      have HY := Lib.hid hy
      rw [← hy] at HF5
      clear hr5 hx5 hp5 hm5 HS4 HC4 hgl4 HP4 HP5 HR hy
      have HRD2 := Lib.hid (one_cells w5 [.int .i64 y] 3 ncells y rfl)
      go_wp2_with fail
      with_reducible refine (HF5.out).mono ?_
      rintro e w6 ⟨rfl, hw6⟩
      subst hw6
      go_wp2_with (at_builtin; refine RowT.app int_T rfl _ _ rfl w.heap.size (.slice v2p (i + 1) v2c) (i + 1) (rowOf ncells (own :: (L.take i).map fun x => Pr.rd ((s.knowAll L).pr x))) rfl ((by have := HROW2.out.ow; rw [HL1.out.2] at this; exact this.alloc _)) rfl HRD2.out (fun h => by cases h) (by omega) (by have := HPP5.out.1.size; simp; omega) ?_; intro v7 w7 hown7 hgr7 hat7)
      have hG7 := Row.grow (x := y) HS5.out.1 HROW2.out hgl5 (by rw [HL1.out.2]; exact hown7) hgr7 hat7
      obtain ⟨hrow7, hrf7, hf7, hlo7⟩ := hG7
      have hr17 := HROW1.out.other hf7 (fun k h1 h2 => HD4.out k h2 h1)
      have HS7 := Lib.hid (And.intro hrow7 (And.intro hrf7 hr17))
      have HD7 : Hid (∀ k, v4.ownBlock = some k → v7.ownBlock ≠ some k) := Lib.hid (fun k h1 h2 => by
        rcases hlo7 with e | e
        · exact HD4.out k h1 (e.symm.trans h2)
        · have := e k h2; have := (HROW1.out.ow.lt k h1).2; omega)
      have HP7 : Hid (PS rb h h5 w w7) := Lib.hid ⟨Fr.trans HPP5.out.1 hf7 (fun k hk hlt => by have := (HROW2.out.ow.lt k hk).1; omega), HPP5.out.2⟩
      have HC7 : Hid (∀ k, k < L.length → w7.cell? ⟨g, k, none⟩ = some (.int .i64 (HL.el L k))) := Lib.hid (fun k hk => (hf7.cell (p := ⟨g, k, none⟩) hgl5 (fun e => HROW2.out.ne e)).trans (HC5.out k hk))
      have HG7 : Hid (g < w7.heap.size) := Lib.hid (Nat.lt_of_lt_of_le hgl5 hf7.size)
      clear hown7 hgr7 hat7 hrow7 hrf7 hr17 hlo7 hf7 HC5 hgl5 HPP5 HROW1 HROW2 HRD2 HF5 HS5
      go_wp2
      go_roundw
      case rel =>
        refine ⟨i + 1, h5, by omega, by go_num, Lib.hid ⟨by rw [HTK.out.2.1]; exact HS7.out.2.1, HP7.out, HMH.out, HNG5.out, fun _ => HG7.out⟩, Lib.hid ⟨by rw [HTK.out.1]; exact HS7.out.2.2, ?_, HD7.out⟩, HC7⟩
        rw [HTK.out.1, List.map_append, List.map_singleton, ← HY.out]
        exact HS7.out.1
      case measure => simp [intOf]; omega
    · obtain rfl : i = L.length := by omega
      have htk : L.take L.length = L := List.take_length
      rw [htk] at HR HW
      have hl1 : (s.id :: L).length = L.length + 1 := rfl
      have hl2 : (own :: L.map fun x => Pr.rd ((s.knowAll L).pr x)).length = L.length + 1 := by simp
      obtain ⟨v1p, v1c, hv1⟩ := owns_slice HW.out.1.ow
      obtain ⟨v2p, v2c, hv2⟩ := owns_slice HW.out.2.1.ow
      subst hv1 hv2
      have HA1 := Lib.hid (HAL.out wr h' HR.out.1)
      rw [HALE.out] at HA1
      have HI1 := Lib.hid HW.out.1
      have HI2 := Lib.hid HW.out.2.1
      clear HW htk HC
      go_wp2_with fail
      with_reducible refine (HA1.out).mono ?_
      rintro e w4 ⟨v4, rfl, ho4, hb4⟩
      obtain ⟨p4, c4, hv4⟩ := owns_slice ho4
      subst hv4
      have hv2 := HV.out.2.1
      have HRE := Lib.hid (reached_ints p4 v1p v2p A.length c4 _ v1c _ v2c A (s.id :: L) (own :: L.map fun x => Pr.rd ((s.knowAll L).pr x)) w4 (RdI.of_own ho4 rfl) (RdI.of_own (HI1.out.below hb4).ow rfl) (RdI.of_own (HI2.out.below hb4).ow rfl) (by omega) (by simp; omega) (by simp; omega))
      rw [hl1, hl2] at HRE
      have HB4 := Lib.hid hb4
      clear ho4 hb4 HA1 hl1 hl2
      go_wp2_with fail
      with_reducible refine (HRE.out).mono ?_
      rintro e w5 ⟨rfl, hb5⟩
      have HB5 : Hid (Below wr.heap.size wr w5) := Lib.hid (HB4.out.trans (hb5.mono HB4.out.size))
      clear hb5 HRE
      go_wp2
      go_ret
      exact ⟨rfl, h', HR.out.1.below HB5.out, HR.out.2.1.trans (PS.still HB5.out), HR.out.2.2.1⟩
set_option maxHeartbeats 2000000 in
set_option maxRecDepth 100000 in
theorem rf_acked2 (H : Rf rb base s h w) (B : RB M N s) (hrole : s.role = 2) :
    Calls Tryz.prog 33 #[.pointer (some ⟨rb, 0, none⟩)] w fun e w' => e = .returned (.int .i64 s.ackedV) ∧ ∃ h', Rf rb base s.acked h' w' ∧ PS rb h h' w w' ∧ Hd.Ext2 h h' := by
  have HNO := Lib.hid (rf_none H)
  have HAT := Lib.hid (rf_at_rd2 s.round H B)
  have c1 : w.cell? ⟨rb, 1, none⟩ = some (.int .i64 s.role) := H.cell 1 rfl
  have c8 : w.cell? ⟨rb, 8, none⟩ = some (.int .i64 s.round) := H.cell 8 rfl
  rw [hrole] at c1
  unfold RS.ackedV RS.acked
  generalize s.far s.round Pr.rd = fv at *
  generalize s.knowAll s.others = ka at *
  clear H B hrole
  go_enter Tryz.func33, Tryz.ntmps33
  go_upto_region 3 with (with_reducible refine HNO.out.mono ?_; rintro e Wb ⟨rfl, hWb⟩; have hWb := hWb.symm; subst hWb)
  go_wp2_with fail
  with_reducible refine (HAT.out).mono ?_
  rintro e W2 ⟨rfl, h2, hr2, hp2, hx2⟩
  have HF := Lib.hid (And.intro hr2 (And.intro hp2 hx2))
  clear hr2 hp2 hx2 HAT
  go_wp2_with fail
  go_ret
  exact ⟨rfl, h2, HF.out⟩
end
end RF
end Go.Proofs.YtaodldagmmephaaGreat
