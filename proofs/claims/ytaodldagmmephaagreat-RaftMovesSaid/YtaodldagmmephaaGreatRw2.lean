/- arboretumlaw20.RaftMoves returns true, whatever its arguments. -/
import Derived.Test.YtaodldagmmephaaGreatRw1
namespace Go.Proofs.YtaodldagmmephaaGreat
open Go.RowKit Go.Maps
namespace RF
section
variable {rb base : Nat} {s : RS} {h : Hd} {w : World} {M : Int} {N : Nat}
theorem Ans.form2 {h0 : Hd} {e : Ending} {w' : World} (A : Ans rb base s h0 w e w') : ∃ p1 c1 p2 n2 c2, e = .returned (.agg #[.slice p1 s.out.ms.length c1, .bool s.out.hd, .int .i64 s.out.fr, .slice p2 n2 c2]) := by
  obtain ⟨v, h', rfl, _, _, _, ov, nv, mh, rfl, hm, h1, _, h2, _⟩ := A
  obtain ⟨p1, c1, e1⟩ := owns_slice h1
  obtain ⟨p2, c2, e2⟩ := owns_slice h2
  have hl : mh.length = s.out.ms.length := by
    rw [← List.length_map (f := fun x : Mg × Value => x.1), hm]
    rfl
  rw [hl] at e1
  exact ⟨p1, c1, p2, _, c2, by rw [e1, e2]; rfl⟩
theorem own_nil {W : World} {b : Nat} {e : TypeId} {sz n : Nat} {p : Option Addr} {m c : Nat} {xs : List Value} (h : W.ownsRow b e sz (.slice p m c) n xs) : (∃ b o, p = some ⟨b, o, none⟩) ∨ p = none ∧ c = 0 := by
  rcases h.2 with ⟨e, _⟩ | ⟨g, cap, cur, e, _⟩
  · injection e with e1 _ e3
    exact .inr ⟨e1, e3⟩
  · injection e with e1 _ _
    exact .inl ⟨_, _, e1⟩
end
theorem ints_fresh (w : World) (zs : List Int) : RdI (w.alloc (.cells (rowOf ncells zs).toArray 3)) (w.alloc (.cells (rowOf ncells zs).toArray 3)).heap.size (some ⟨w.heap.size, 0, none⟩) zs.length zs := rd_new w zs _
set_option maxHeartbeats 2000000 in
set_option maxRecDepth 100000 in
theorem moves_walk (n c ix tm : Int) (sm : Bool) (w : World) :
    Calls Tryz.prog 3 #[.int .i64 n, .int .i64 c, .int .i64 ix, .int .i64 tm, .bool sm] w fun e w' => e = .returned (.bool true) ∧ Below w.heap.size w w' := by
  have HAL := Lib.hid (fun W => alive_true W)
  go_enter Tryz.func3, Tryz.ntmps3
  go_upto_region 1 with fail
  go_cut [49] (fun s49 wx => ∃ β : Bool, s49 = .bool β ∧ wx = w ∧ Hid (Dec β (¬ (0 ≤ n ∧ n ≤ 20 ∧ 0 ≤ c ∧ c ≤ n ∧ 0 ≤ ix ∧ ix ≤ 40 ∧ 0 ≤ tm ∧ tm ≤ 5))))
  case first =>
    by_cases hz0 : 0 ≤ n
    case neg =>
      have HN : Hid (Dec true (¬ (0 ≤ n ∧ n ≤ 20 ∧ 0 ≤ c ∧ c ≤ n ∧ 0 ≤ ix ∧ ix ≤ 40 ∧ 0 ≤ tm ∧ tm ≤ 5))) := Lib.hid (Dec.t (fun h => hz0 h.1))
      have hy0 : n < 0 := by omega
      have dz0 : decide (n < 0) = true := decide_eq_true hy0
      go_wp2
      go_meet
      case rel => exact ⟨_, rfl, rfl, HN⟩
    have dz0 : decide (n < 0) = false := decide_eq_false (by omega)
    by_cases hz1 : n ≤ 20
    case neg =>
      have HN : Hid (Dec true (¬ (0 ≤ n ∧ n ≤ 20 ∧ 0 ≤ c ∧ c ≤ n ∧ 0 ≤ ix ∧ ix ≤ 40 ∧ 0 ≤ tm ∧ tm ≤ 5))) := Lib.hid (Dec.t (fun h => hz1 h.2.1))
      have hy1 : 20 < n := by omega
      have dz1 : decide (20 < n) = true := decide_eq_true hy1
      go_wp2
      go_meet
      case rel => exact ⟨_, rfl, rfl, HN⟩
    have dz1 : decide (20 < n) = false := decide_eq_false (by omega)
    by_cases hz2 : 0 ≤ c
    case neg =>
      have HN : Hid (Dec true (¬ (0 ≤ n ∧ n ≤ 20 ∧ 0 ≤ c ∧ c ≤ n ∧ 0 ≤ ix ∧ ix ≤ 40 ∧ 0 ≤ tm ∧ tm ≤ 5))) := Lib.hid (Dec.t (fun h => hz2 h.2.2.1))
      have hy2 : c < 0 := by omega
      have dz2 : decide (c < 0) = true := decide_eq_true hy2
      go_wp2
      go_meet
      case rel => exact ⟨_, rfl, rfl, HN⟩
    have dz2 : decide (c < 0) = false := decide_eq_false (by omega)
    by_cases hz3 : c ≤ n
    case neg =>
      have HN : Hid (Dec true (¬ (0 ≤ n ∧ n ≤ 20 ∧ 0 ≤ c ∧ c ≤ n ∧ 0 ≤ ix ∧ ix ≤ 40 ∧ 0 ≤ tm ∧ tm ≤ 5))) := Lib.hid (Dec.t (fun h => hz3 h.2.2.2.1))
      have hy3 : n < c := by omega
      have dz3 : decide (n < c) = true := decide_eq_true hy3
      go_wp2
      go_meet
      case rel => exact ⟨_, rfl, rfl, HN⟩
    have dz3 : decide (n < c) = false := decide_eq_false (by omega)
    by_cases hz4 : 0 ≤ ix
    case neg =>
      have HN : Hid (Dec true (¬ (0 ≤ n ∧ n ≤ 20 ∧ 0 ≤ c ∧ c ≤ n ∧ 0 ≤ ix ∧ ix ≤ 40 ∧ 0 ≤ tm ∧ tm ≤ 5))) := Lib.hid (Dec.t (fun h => hz4 h.2.2.2.2.1))
      have hy4 : ix < 0 := by omega
      have dz4 : decide (ix < 0) = true := decide_eq_true hy4
      go_wp2
      go_meet
      case rel => exact ⟨_, rfl, rfl, HN⟩
    have dz4 : decide (ix < 0) = false := decide_eq_false (by omega)
    by_cases hz5 : ix ≤ 40
    case neg =>
      have HN : Hid (Dec true (¬ (0 ≤ n ∧ n ≤ 20 ∧ 0 ≤ c ∧ c ≤ n ∧ 0 ≤ ix ∧ ix ≤ 40 ∧ 0 ≤ tm ∧ tm ≤ 5))) := Lib.hid (Dec.t (fun h => hz5 h.2.2.2.2.2.1))
      have hy5 : 40 < ix := by omega
      have dz5 : decide (40 < ix) = true := decide_eq_true hy5
      go_wp2
      go_meet
      case rel => exact ⟨_, rfl, rfl, HN⟩
    have dz5 : decide (40 < ix) = false := decide_eq_false (by omega)
    by_cases hz6 : 0 ≤ tm
    case neg =>
      have HN : Hid (Dec true (¬ (0 ≤ n ∧ n ≤ 20 ∧ 0 ≤ c ∧ c ≤ n ∧ 0 ≤ ix ∧ ix ≤ 40 ∧ 0 ≤ tm ∧ tm ≤ 5))) := Lib.hid (Dec.t (fun h => hz6 h.2.2.2.2.2.2.1))
      have hy6 : tm < 0 := by omega
      have dz6 : decide (tm < 0) = true := decide_eq_true hy6
      go_wp2
      go_meet
      case rel => exact ⟨_, rfl, rfl, HN⟩
    have dz6 : decide (tm < 0) = false := decide_eq_false (by omega)
    by_cases hz7 : tm ≤ 5
    case neg =>
      have HN : Hid (Dec true (¬ (0 ≤ n ∧ n ≤ 20 ∧ 0 ≤ c ∧ c ≤ n ∧ 0 ≤ ix ∧ ix ≤ 40 ∧ 0 ≤ tm ∧ tm ≤ 5))) := Lib.hid (Dec.t (fun h => hz7 h.2.2.2.2.2.2.2))
      have hy7 : 5 < tm := by omega
      have dz7 : decide (5 < tm) = true := decide_eq_true hy7
      go_wp2
      go_meet
      case rel => exact ⟨_, rfl, rfl, HN⟩
    have dz7 : decide (5 < tm) = false := decide_eq_false (by omega)
    have HN : Hid (Dec false (¬ (0 ≤ n ∧ n ≤ 20 ∧ 0 ≤ c ∧ c ≤ n ∧ 0 ≤ ix ∧ ix ≤ 40 ∧ 0 ≤ tm ∧ tm ≤ 5))) := Lib.hid (Dec.f (fun h => h ⟨hz0, hz1, hz2, hz3, hz4, hz5, hz6, hz7⟩))
    go_wp2
    go_meet
    case rel => exact ⟨_, rfl, rfl, HN⟩
  case rest =>
  obtain ⟨β, rfl, hwc, HBE⟩ := hcut
  have hwc := hwc.symm
  subst hwc
  cases β with
  | true =>
    have HAC := Lib.hid (HAL.out w)
    go_wp2_with fail
    with_reducible refine (HAC.out).mono ?_
    rintro e w2 ⟨rfl, hb2⟩
    have HB2 := Lib.hid hb2
    go_wp2
    go_ret
    exact ⟨rfl, HB2.out⟩
  | false =>
  have hbd : 0 ≤ n ∧ n ≤ 20 ∧ 0 ≤ c ∧ c ≤ n ∧ 0 ≤ ix ∧ ix ≤ 40 ∧ 0 ≤ tm ∧ tm ≤ 5 := by
    by_cases h9 : 0 ≤ n ∧ n ≤ 20 ∧ 0 ≤ c ∧ c ≤ n ∧ 0 ≤ ix ∧ ix ≤ 40 ∧ 0 ≤ tm ∧ tm ≤ 5
    · exact h9
    · have := HBE.out.2 h9; cases this
  clear HBE
  obtain ⟨n', rfl⟩ := Int.eq_ofNat_of_zero_le hbd.1
  obtain ⟨c', rfl⟩ := Int.eq_ofNat_of_zero_le hbd.2.2.1
  have hn20 : n' ≤ 20 := by omega
  have hcn : c' ≤ n' := by omega
  obtain ⟨hix0, hix1, htm0, htm1⟩ := hbd.2.2.2.2
  clear hbd
  go_wp2
  go_loopw [11, 12] (fun lv iv wr => ∃ k : Nat, k ≤ n' ∧ iv = .int .i64 ((k : Int) + 1) ∧ Hid (wr.ownsRow w.heap.size 25 4 lv k (rowOf ecells (mvL k)) ∧ Below w.heap.size w wr)) (fun _ iv _ => n' + 1 - (intOf iv).toNat)
  case atStart => exact ⟨0, Nat.zero_le _, rfl, Lib.hid ⟨World.ownsRow_nil _ _ _ _, Below.refl _ _⟩⟩
  case round =>
    obtain ⟨k, hk, rfl, HR⟩ := hrel
    obtain ⟨p, cp, hv⟩ := owns_slice HR.out.1
    subst hv
    by_cases hlt : k < n'
    · have hltI : (k : Int) + 1 ≤ (n' : Int) := by omega
      have hdiv : ((k : Int) + 1).tdiv 8 = (((k + 1) / 8 : Nat) : Int) := by
        rw [Int.tdiv_eq_ediv_of_nonneg (by omega)]
        omega
      have hw1 : IntKind.i64.wrap (1 + (((k + 1) / 8 : Nat) : Int)) = 1 + (((k + 1) / 8 : Nat) : Int) := IntWalk.i64_in _ (by omega)
      have hw2 : IntKind.i64.wrap ((k : Int) + 1 + 1) = (k : Int) + 1 + 1 := IntWalk.i64_in _ (by omega)
      have HRD := Lib.hid (one_cells wr [.int .i64 ((k : Int) + 1), .int .i64 (1 + (((k + 1) / 8 : Nat) : Int)), .int .i64 0, .string ⟨#[]⟩] 25 ecells (mvE k) rfl)
      have HSZ := Lib.hid HR.out.2.size
      go_wp2_with (at_builtin; refine RowT.app en_T rfl _ _ rfl w.heap.size (.slice p k cp) k (rowOf ecells (mvL k)) rfl (HR.out.1.alloc _) rfl HRD.out (fun h => by cases h) (by omega) (by have := HSZ.out; simp; omega) ?_; intro v4 w4 hown4 hgr4 hat4)
      have HF : Hid (w4.ownsRow w.heap.size 25 4 v4 (k + 1) (rowOf ecells (mvL (k + 1))) ∧ Below w.heap.size w w4) := Lib.hid ⟨by rw [mvL_succ, rowOf_append]; exact hown4, HR.out.2.trans ((Fr.of_grown hgr4 (S := fun g => (Value.slice p k cp).ownBlock = some g) (fun _ _ h => h)).below (by have := HSZ.out; simp; omega) (fun g hg => (HR.out.1.lt g hg).1) |> fun hb => ((Below.refl w.heap.size wr).alloc HSZ.out _).trans hb)⟩
      clear hown4 hgr4 hat4 HR
      go_wp2
      go_roundw
      case rel => exact ⟨k + 1, by omega, by go_num, HF⟩
      case measure => simp [intOf]; omega
    · obtain rfl : k = n' := by omega
      have hltI : ¬ ((k : Int) + 1 ≤ (k : Int)) := by omega
      have HRG := Lib.hid (RdG.of_own HR.out.1 (mvL_len k))
      have HNI := Lib.hid (own_nil HR.out.1)
      have HBW := Lib.hid HR.out.2
      clear HR
      have HBA : Hid (Below wr.heap.size wr (wr.alloc (.cells #[.int .i64 1, .int .i64 2, .int .i64 3] 3))) := Lib.hid ((Below.refl _ wr).alloc (Nat.le_refl _) _)
      have HIF : Hid (RdI (wr.alloc (.cells #[.int .i64 1, .int .i64 2, .int .i64 3] 3)) (wr.alloc (.cells #[.int .i64 1, .int .i64 2, .int .i64 3] 3)).heap.size (some ⟨wr.heap.size, 0, none⟩) 3 [1, 2, 3]) := Lib.hid (ints_fresh wr [1, 2, 3])
      have HNEW := Lib.hid (rf_new 1 4 0 (c' : Int) 0 0 [1, 2, 3] (some ⟨wr.heap.size, 0, none⟩) 3 (mvL k) p k cp (by omega) (by omega) HIF.out (rdg_wide (HRG.out.below HBA.out) HBA.out.size) HNI.out (by omega) (fun i hi => by rw [mvL_el hi]; exact Nat.zero_le _) (mv_new k c' hn20))
      simp only [List.length_cons, List.length_nil, Nat.zero_add, Nat.reduceAdd] at HNEW
      go_wp2_with fail
      with_reducible refine (HNEW.out).mono ?_
      rintro e w2 ⟨rb, h, B0, rfl, hcl, hB0, hr, hb2⟩
      have HB2 : Hid (Below w.heap.size w w2) := Lib.hid (HBW.out.trans ((HBA.out.trans (hb2.mono HBA.out.size)).mono HBW.out.size))
      have HR2 : Hid (Rf rb B0 (mvS k c') h w2) := Lib.hid hr
      have HCL := Lib.hid hcl
      have HS0 : Hid (w.heap.size ≤ B0) := Lib.hid (Nat.le_trans (Nat.le_trans HBW.out.size HBA.out.size) hB0)
      clear hcl hB0 hr hb2 HNEW HIF HBA HRG HNI HBW
      go_upto_region 11 with fail
      go_cut [4, 88] (fun _ s88 wx => ∃ β : Bool, s88 = .bool β ∧ wx = w2)
      case first =>
        cases hsm : sm with
        | false =>
          go_wp2
          go_meet
          case rel => exact ⟨_, rfl, rfl⟩
        | true =>
          by_cases h1 : 1 ≤ ix
          · have d1 : decide (1 ≤ ix) = true := decide_eq_true h1
            by_cases h2 : ix ≤ (k : Int)
            · have d2 : decide (ix ≤ (k : Int)) = true := decide_eq_true h2
              go_wp2
              go_meet
              case rel => exact ⟨_, rfl, rfl⟩
            · have d2 : decide (ix ≤ (k : Int)) = false := decide_eq_false h2
              have h3 : (k : Int) < ix := by omega
              go_wp2
              go_meet
              case rel => exact ⟨_, rfl, rfl⟩
          · have d1 : decide (1 ≤ ix) = false := decide_eq_false h1
            have h3 : ix < 1 := by omega
            go_wp2
            go_meet
            case rel => exact ⟨_, rfl, rfl⟩
      case rest =>
      obtain ⟨β, rfl, hwd⟩ := hcut
      have hwd := hwd.symm
      subst hwd
      go_upto_if 88 with fail
      go_cut [3] (fun s3 wx => ∃ t' : Int, s3 = .int .i64 t' ∧ wx = w2 ∧ 0 ≤ t' ∧ t' ≤ 6)
      case first =>
        have htd0 : 0 ≤ ix.tdiv 8 ∧ ix.tdiv 8 ≤ 5 := by rw [Int.tdiv_eq_ediv_of_nonneg hix0]; omega
        have hwt : IntKind.i64.wrap (1 + ix.tdiv 8) = 1 + ix.tdiv 8 := IntWalk.i64_in _ (by omega)
        cases β with
        | false =>
          go_wp2
          go_meet
          case rel => exact ⟨_, rfl, rfl, by omega, by omega⟩
        | true =>
          go_wp2
          go_meet
          case rel => exact ⟨_, rfl, rfl, by omega, by omega⟩
      case rest =>
      obtain ⟨t', rfl, hwd, ht0, ht6⟩ := hcut
      have hwd := hwd.symm
      subst hwd
      have HSZ2 := Lib.hid HB2.out.size
      have HBA : Hid (Below w2.heap.size w2 (w2.alloc (.cells #[.int .i64 2, .int .i64 3] 3))) := Lib.hid ((Below.refl _ w2).alloc (Nat.le_refl _) _)
      have HIF : Hid (RdI (w2.alloc (.cells #[.int .i64 2, .int .i64 3] 3)) (w2.alloc (.cells #[.int .i64 2, .int .i64 3] 3)).heap.size (some ⟨w2.heap.size, 0, none⟩) 2 [2, 3]) := Lib.hid (ints_fresh w2 [2, 3])
      have HRS := Lib.hid (rf_restore ix t' [2, 3] (some ⟨w2.heap.size, 0, none⟩) 2 (HR2.out.below HBA.out) (mv_rb k c' hn20 hcn) (by omega) (by omega) HCL.out rfl HIF.out (fun g o e hf => by
        injection e with e
        injection e with e _ _
        have := (HR2.out.lt hf).2
        omega))
      simp only [List.length_cons, List.length_nil, Nat.zero_add, Nat.reduceAdd] at HRS
      have HOK := Lib.hid (mv_ok k c' ix t' hcn ht0)
      go_wp2_with fail
      with_reducible refine (HRS.out).mono ?_
      rintro e w4 ⟨v, rfl, hA⟩
      by_cases hok : (c' : Int) < ix ∧ t' ≤ 4
      · have hro := HOK.out.2 hok
        rw [decide_eq_true hro]
        rw [if_pos hro] at hA
        have hmr := mv_rest k c' ix t' hn20 hcn ht0 hok
        obtain ⟨p1, c1, p2, n2, c2, hv⟩ := hA.form2
        injection hv with hv
        subst hv
        obtain ⟨v0, h4, hv0, hcl4, hr4, hp4, _⟩ := hA
        clear hv0
        have HB4 : Hid (Below w.heap.size w w4) := Lib.hid ((HB2.out.trans (HBA.out.mono HB2.out.size)).trans (hp4.1.below (Nat.le_trans HB2.out.size HBA.out.size) (fun k hk => Nat.le_trans HS0.out (HR2.out.lt hk).1)))
        have hB4 := ((mv_rb k c' hn20 hcn).rest hro (by omega) (by omega)).of (s' := ((mvS k c').rest ix t' [2, 3]).fin) rfl rfl rfl rfl rfl rfl rfl rfl rfl
        have HST := Lib.hid (fun W (hW : Below w4.heap.size w4 W) => rf_state (hr4.below hW) hB4)
        obtain ⟨r1, r2, r3, r4, r5, r6⟩ := hmr
        have r3' : ((mvS k c').rest ix t' [2, 3]).fin.b = ix := r3
        have r4' : ((mvS k c').rest ix t' [2, 3]).fin.commit = ix := r4
        have r5' : (lastS ((mvS k c').rest ix t' [2, 3]).fin.b ((mvS k c').rest ix t' [2, 3]).fin.t ((mvS k c').rest ix t' [2, 3]).fin.l).1 = mvT k ix t' := r5
        have r6' : ((mvS k c').rest ix t' [2, 3]).fin.all = [2, 3] := r6
        rw [r1, r2]
        unfold stateV at HST
        rw [r5', r6', r4', r3'] at HST
        clear r1 r2 r3 r4 r5 r6 r3' r4' r5' r6' hB4 hcl4 hp4 hr4 hro HRS
        generalize ((mvS k c').rest ix t' [2, 3]).fin = z at *
        generalize ((mvS k c').rest ix t' [2, 3]).out.ms.length = nm at *
        go_wp2_with fail
        with_reducible refine (HST.out _ ((Below.refl _ _).alloc (Nat.le_refl _) _)).mono ?_
        rintro e w5 ⟨v5, rfl, ho5, hb5⟩
        obtain ⟨q5, d5, hv5⟩ := owns_slice ho5
        have hv5 : v5 = .slice q5 2 d5 := hv5
        subst hv5
        have X16 := (CBox.fresh w4 [.slice p1 nm c1, .bool true, .int .i64 (ix + 1), .slice p2 n2 c2] 37).below hb5
        have hb45 : Below w4.heap.size w4 w5 := ((Below.refl _ w4).alloc (Nat.le_refl _) _).trans (hb5.mono (by simp))
        have HB5 := Lib.hid (HB4.out.trans (hb45.mono HB4.out.size))
        have HO5 : Hid (w5.ownsRow 0 3 1 (.slice q5 2 d5) 2 (rowOf ncells [2, 3])) := Lib.hid (own_lo ho5 (Nat.zero_le _))
        have d1 : decide ((c' : Int) < ix) = true := decide_eq_true hok.1
        have d2 : decide (t' ≤ 4) = true := decide_eq_true hok.2
        have hok1 := hok.1
        have hok2 := hok.2
        clear ho5 hb5 hb45 HST hok HB4 HIF HBA HR2
        have htd0 : 0 ≤ ix.tdiv 8 ∧ ix.tdiv 8 ≤ 5 := by rw [Int.tdiv_eq_ediv_of_nonneg hix0]; omega
        have hwt : IntKind.i64.wrap (1 + ix.tdiv 8) = 1 + ix.tdiv 8 := IntWalk.i64_in _ (by omega)
        have HMV : Hid (mvT k ix t' = if ix ≤ (k : Int) ∧ t' = 1 + ix.tdiv 8 then (k : Int) else ix) := Lib.hid rfl
        by_cases hl1 : ix ≤ (k : Int)
        · by_cases hl2 : t' = 1 + ix.tdiv 8
          · have d3 : (t' == 1 + ix.tdiv 8) = true := by simp [hl2]
            have hmv : mvT k ix t' = (k : Int) := by rw [HMV.out, if_pos ⟨hl1, hl2⟩]
            rw [hmv]
            clear hl2 HMV hmv
            go_upto_region 22 with fail
            have X17 := CBox.fresh w5 [.int .i64 z.id, .int .i64 z.role, .int .i64 z.lead, .int .i64 z.term, .int .i64 z.vote, .int .i64 ix, .int .i64 ix, .int .i64 (k : Int), .int .i64 (lastS ix z.t z.l).2, .int .i64 z.elapsed, .int .i64 z.timeout, .int .i64 z.round, .slice q5 2 d5] 41
            dsimp only [List.toArray] at X17
            have X16' := X16.below ((Below.refl _ w5).alloc (Nat.le_refl _) (.cells #[.int .i64 z.id, .int .i64 z.role, .int .i64 z.lead, .int .i64 z.term, .int .i64 z.vote, .int .i64 ix, .int .i64 ix, .int .i64 (k : Int), .int .i64 (lastS ix z.t z.l).2, .int .i64 z.elapsed, .int .i64 z.timeout, .int .i64 z.round, .slice q5 2 d5] 41))
            have HB6 : Hid (Below w5.heap.size w5 (w5.alloc (.cells #[.int .i64 z.id, .int .i64 z.role, .int .i64 z.lead, .int .i64 z.term, .int .i64 z.vote, .int .i64 ix, .int .i64 ix, .int .i64 (k : Int), .int .i64 (lastS ix z.t z.l).2, .int .i64 z.elapsed, .int .i64 z.timeout, .int .i64 z.round, .slice q5 2 d5] 41))) := Lib.hid ((Below.refl _ w5).alloc (Nat.le_refl _) _)
            generalize w5.alloc (.cells #[.int .i64 z.id, .int .i64 z.role, .int .i64 z.lead, .int .i64 z.term, .int .i64 z.vote, .int .i64 ix, .int .i64 ix, .int .i64 (k : Int), .int .i64 (lastS ix z.t z.l).2, .int .i64 z.elapsed, .int .i64 z.timeout, .int .i64 z.round, .slice q5 2 d5] 41) = W6 at *
            go_wp2_with fail
            with_reducible refine (HAL.out _).mono ?_
            rintro e w7 ⟨rfl, hb7⟩
            have HB7 := Lib.hid (HB6.out.trans (hb7.mono HB6.out.size))
            have X16'' := X16'.below hb7
            have X17' := X17.below hb7
            have x1 := X16''.1 1 _ rfl
            have x2 := X16''.1 2 _ rfl
            have y5 := X17'.1 5 _ rfl
            have y6 := X17'.1 6 _ rfl
            have y7 := X17'.1 7 _ rfl
            have y12 := X17'.1 12 _ rfl
            have hwi : IntKind.i64.wrap (ix + 1) = ix + 1 := IntWalk.i64_in _ (by omega)
            have HSM : Hid (Calls Tryz.prog 17 #[.slice q5 2 d5, .slice (some ⟨w7.heap.size, 0, none⟩) 2 2] (w7.alloc (.cells #[.int .i64 2, .int .i64 3] 3)) (SamePost ([2, 3] : List Int) [2, 3] (w7.alloc (.cells #[.int .i64 2, .int .i64 3] 3)))) := Lib.hid (same_ints q5 (some ⟨w7.heap.size, 0, none⟩) 2 d5 2 2 [2, 3] [2, 3] _ w5.heap.size _ (RdI.below (RdI.of_own (zs := [2, 3]) HO5.out rfl) (HB7.out.alloc HB7.out.size _)) (ints_fresh w7 [2, 3]) (by omega) (by omega))
            clear hb7 X16'' X17' X16' X17
            go_wp2_with fail
            with_reducible refine (HSM.out).mono ?_
            rintro e w8 ⟨b, m, rfl, hbb, rfl⟩
            obtain rfl : b = true := hbb.2 rfl
            clear hbb
            go_wp2
            go_ret
            exact ⟨rfl, ((HB5.out.trans (HB7.out.mono HB5.out.size)).alloc (HB5.out.trans (HB7.out.mono HB5.out.size)).size _).trans (((Fr.refl (fun _ => False) _).drewN m).below (Nat.le_refl _) (fun _ h => h.elim) |>.mono ((HB5.out.trans (HB7.out.mono HB5.out.size)).alloc (HB5.out.trans (HB7.out.mono HB5.out.size)).size _).size)⟩
          · have d3 : (t' == 1 + ix.tdiv 8) = false := by simp [hl2]
            have hmv : mvT k ix t' = ix := by rw [HMV.out, if_neg (fun e => hl2 e.2)]
            rw [hmv]
            clear hl2 HMV hmv
            go_upto_region 22 with fail
            have X17 := CBox.fresh w5 [.int .i64 z.id, .int .i64 z.role, .int .i64 z.lead, .int .i64 z.term, .int .i64 z.vote, .int .i64 ix, .int .i64 ix, .int .i64 ix, .int .i64 (lastS ix z.t z.l).2, .int .i64 z.elapsed, .int .i64 z.timeout, .int .i64 z.round, .slice q5 2 d5] 41
            dsimp only [List.toArray] at X17
            have X16' := X16.below ((Below.refl _ w5).alloc (Nat.le_refl _) (.cells #[.int .i64 z.id, .int .i64 z.role, .int .i64 z.lead, .int .i64 z.term, .int .i64 z.vote, .int .i64 ix, .int .i64 ix, .int .i64 ix, .int .i64 (lastS ix z.t z.l).2, .int .i64 z.elapsed, .int .i64 z.timeout, .int .i64 z.round, .slice q5 2 d5] 41))
            have HB6 : Hid (Below w5.heap.size w5 (w5.alloc (.cells #[.int .i64 z.id, .int .i64 z.role, .int .i64 z.lead, .int .i64 z.term, .int .i64 z.vote, .int .i64 ix, .int .i64 ix, .int .i64 ix, .int .i64 (lastS ix z.t z.l).2, .int .i64 z.elapsed, .int .i64 z.timeout, .int .i64 z.round, .slice q5 2 d5] 41))) := Lib.hid ((Below.refl _ w5).alloc (Nat.le_refl _) _)
            generalize w5.alloc (.cells #[.int .i64 z.id, .int .i64 z.role, .int .i64 z.lead, .int .i64 z.term, .int .i64 z.vote, .int .i64 ix, .int .i64 ix, .int .i64 ix, .int .i64 (lastS ix z.t z.l).2, .int .i64 z.elapsed, .int .i64 z.timeout, .int .i64 z.round, .slice q5 2 d5] 41) = W6 at *
            go_wp2_with fail
            with_reducible refine (HAL.out _).mono ?_
            rintro e w7 ⟨rfl, hb7⟩
            have HB7 := Lib.hid (HB6.out.trans (hb7.mono HB6.out.size))
            have X16'' := X16'.below hb7
            have X17' := X17.below hb7
            have x1 := X16''.1 1 _ rfl
            have x2 := X16''.1 2 _ rfl
            have y5 := X17'.1 5 _ rfl
            have y6 := X17'.1 6 _ rfl
            have y7 := X17'.1 7 _ rfl
            have y12 := X17'.1 12 _ rfl
            have hwi : IntKind.i64.wrap (ix + 1) = ix + 1 := IntWalk.i64_in _ (by omega)
            have HSM : Hid (Calls Tryz.prog 17 #[.slice q5 2 d5, .slice (some ⟨w7.heap.size, 0, none⟩) 2 2] (w7.alloc (.cells #[.int .i64 2, .int .i64 3] 3)) (SamePost ([2, 3] : List Int) [2, 3] (w7.alloc (.cells #[.int .i64 2, .int .i64 3] 3)))) := Lib.hid (same_ints q5 (some ⟨w7.heap.size, 0, none⟩) 2 d5 2 2 [2, 3] [2, 3] _ w5.heap.size _ (RdI.below (RdI.of_own (zs := [2, 3]) HO5.out rfl) (HB7.out.alloc HB7.out.size _)) (ints_fresh w7 [2, 3]) (by omega) (by omega))
            clear hb7 X16'' X17' X16' X17
            go_wp2_with fail
            with_reducible refine (HSM.out).mono ?_
            rintro e w8 ⟨b, m, rfl, hbb, rfl⟩
            obtain rfl : b = true := hbb.2 rfl
            clear hbb
            go_wp2
            go_ret
            exact ⟨rfl, ((HB5.out.trans (HB7.out.mono HB5.out.size)).alloc (HB5.out.trans (HB7.out.mono HB5.out.size)).size _).trans (((Fr.refl (fun _ => False) _).drewN m).below (Nat.le_refl _) (fun _ h => h.elim) |>.mono ((HB5.out.trans (HB7.out.mono HB5.out.size)).alloc (HB5.out.trans (HB7.out.mono HB5.out.size)).size _).size)⟩
        · have hl3 : (k : Int) < ix := by omega
          have hmv : mvT k ix t' = ix := by rw [HMV.out, if_neg (fun e => hl1 e.1)]
          rw [hmv]
          clear HMV hmv
          go_upto_region 22 with fail
          have X17 := CBox.fresh w5 [.int .i64 z.id, .int .i64 z.role, .int .i64 z.lead, .int .i64 z.term, .int .i64 z.vote, .int .i64 ix, .int .i64 ix, .int .i64 ix, .int .i64 (lastS ix z.t z.l).2, .int .i64 z.elapsed, .int .i64 z.timeout, .int .i64 z.round, .slice q5 2 d5] 41
          dsimp only [List.toArray] at X17
          have X16' := X16.below ((Below.refl _ w5).alloc (Nat.le_refl _) (.cells #[.int .i64 z.id, .int .i64 z.role, .int .i64 z.lead, .int .i64 z.term, .int .i64 z.vote, .int .i64 ix, .int .i64 ix, .int .i64 ix, .int .i64 (lastS ix z.t z.l).2, .int .i64 z.elapsed, .int .i64 z.timeout, .int .i64 z.round, .slice q5 2 d5] 41))
          have HB6 : Hid (Below w5.heap.size w5 (w5.alloc (.cells #[.int .i64 z.id, .int .i64 z.role, .int .i64 z.lead, .int .i64 z.term, .int .i64 z.vote, .int .i64 ix, .int .i64 ix, .int .i64 ix, .int .i64 (lastS ix z.t z.l).2, .int .i64 z.elapsed, .int .i64 z.timeout, .int .i64 z.round, .slice q5 2 d5] 41))) := Lib.hid ((Below.refl _ w5).alloc (Nat.le_refl _) _)
          generalize w5.alloc (.cells #[.int .i64 z.id, .int .i64 z.role, .int .i64 z.lead, .int .i64 z.term, .int .i64 z.vote, .int .i64 ix, .int .i64 ix, .int .i64 ix, .int .i64 (lastS ix z.t z.l).2, .int .i64 z.elapsed, .int .i64 z.timeout, .int .i64 z.round, .slice q5 2 d5] 41) = W6 at *
          go_wp2_with fail
          with_reducible refine (HAL.out _).mono ?_
          rintro e w7 ⟨rfl, hb7⟩
          have HB7 := Lib.hid (HB6.out.trans (hb7.mono HB6.out.size))
          have X16'' := X16'.below hb7
          have X17' := X17.below hb7
          have x1 := X16''.1 1 _ rfl
          have x2 := X16''.1 2 _ rfl
          have y5 := X17'.1 5 _ rfl
          have y6 := X17'.1 6 _ rfl
          have y7 := X17'.1 7 _ rfl
          have y12 := X17'.1 12 _ rfl
          have hwi : IntKind.i64.wrap (ix + 1) = ix + 1 := IntWalk.i64_in _ (by omega)
          have HSM : Hid (Calls Tryz.prog 17 #[.slice q5 2 d5, .slice (some ⟨w7.heap.size, 0, none⟩) 2 2] (w7.alloc (.cells #[.int .i64 2, .int .i64 3] 3)) (SamePost ([2, 3] : List Int) [2, 3] (w7.alloc (.cells #[.int .i64 2, .int .i64 3] 3)))) := Lib.hid (same_ints q5 (some ⟨w7.heap.size, 0, none⟩) 2 d5 2 2 [2, 3] [2, 3] _ w5.heap.size _ (RdI.below (RdI.of_own (zs := [2, 3]) HO5.out rfl) (HB7.out.alloc HB7.out.size _)) (ints_fresh w7 [2, 3]) (by omega) (by omega))
          clear hb7 X16'' X17' X16' X17
          go_wp2_with fail
          with_reducible refine (HSM.out).mono ?_
          rintro e w8 ⟨b, m, rfl, hbb, rfl⟩
          obtain rfl : b = true := hbb.2 rfl
          clear hbb
          go_wp2
          go_ret
          exact ⟨rfl, ((HB5.out.trans (HB7.out.mono HB5.out.size)).alloc (HB5.out.trans (HB7.out.mono HB5.out.size)).size _).trans (((Fr.refl (fun _ => False) _).drewN m).below (Nat.le_refl _) (fun _ h => h.elim) |>.mono ((HB5.out.trans (HB7.out.mono HB5.out.size)).alloc (HB5.out.trans (HB7.out.mono HB5.out.size)).size _).size)⟩
      · have hro : ¬ (mvS k c').restOk ix t' [2, 3] := fun e => hok (HOK.out.1 e)
        rw [decide_eq_false hro]
        rw [if_neg hro] at hA
        obtain ⟨p1, c1, p2, n2, c2, hv⟩ := hA.form2
        injection hv with hv
        have hv : v = .agg #[.slice p1 0 c1, .bool false, .int .i64 0, .slice p2 n2 c2] := hv
        subst hv
        obtain ⟨v0, h4, hv0, hcl4, hr4, hp4, _⟩ := hA
        clear hv0
        have HB4 : Hid (Below w.heap.size w w4) := Lib.hid ((HB2.out.trans (HBA.out.mono HB2.out.size)).trans (hp4.1.below (Nat.le_trans HB2.out.size HBA.out.size) (fun k hk => Nat.le_trans HS0.out (HR2.out.lt hk).1)))
        have hB4 := (mv_rb k c' hn20 hcn).of (s' := (mvS k c').fin) rfl rfl rfl rfl rfl rfl rfl rfl rfl
        have HST := Lib.hid (fun W (hW : Below w4.heap.size w4 W) => rf_state (hr4.below hW) hB4)
        have r3' : (mvS k c').fin.b = 0 := rfl
        have r4' : (mvS k c').fin.commit = (c' : Int) := mv_commit k c' hcn
        have r5' : (lastS 0 (mvS k c').fin.t (mvS k c').fin.l).1 = (k : Int) := mv_last k c'
        unfold stateV at HST
        rw [r4', r3', r5'] at HST
        clear r3' r4' r5' hB4 hcl4 hp4 hr4 hro HRS
        generalize (mvS k c').fin = z at *
        generalize z.all = zl at *
        go_wp2_with fail
        with_reducible refine (HST.out _ ((Below.refl _ _).alloc (Nat.le_refl _) _)).mono ?_
        rintro e w5 ⟨v5, rfl, ho5, hb5⟩
        obtain ⟨q5, d5, hv5⟩ := owns_slice ho5
        subst hv5
        generalize zl.length = zn at *
        have X16 := (CBox.fresh w4 [.slice p1 0 c1, .bool false, .int .i64 0, .slice p2 n2 c2] 37).below hb5
        have hb45 : Below w4.heap.size w4 w5 := ((Below.refl _ w4).alloc (Nat.le_refl _) _).trans (hb5.mono (by simp))
        have HB5 := Lib.hid (HB4.out.trans (hb45.mono HB4.out.size))
        clear ho5 hb5 hb45 HST HB4 HIF HBA HR2
        by_cases hk1 : (c' : Int) < ix
        · have d1 : decide ((c' : Int) < ix) = true := decide_eq_true hk1
          have hk2 : ¬ t' ≤ 4 := fun e => hok ⟨hk1, e⟩
          have hk3 : 4 < t' := by omega
          have d2 : decide (t' ≤ 4) = false := decide_eq_false hk2
          clear hok
          go_upto_region 18 with fail
          have X17 := CBox.fresh w5 [.int .i64 z.id, .int .i64 z.role, .int .i64 z.lead, .int .i64 z.term, .int .i64 z.vote, .int .i64 c', .int .i64 0, .int .i64 k, .int .i64 (lastS 0 z.t z.l).2, .int .i64 z.elapsed, .int .i64 z.timeout, .int .i64 z.round, .slice q5 zn d5] 41
          dsimp only [List.toArray] at X17
          have X16' := X16.below ((Below.refl _ w5).alloc (Nat.le_refl _) (.cells #[.int .i64 z.id, .int .i64 z.role, .int .i64 z.lead, .int .i64 z.term, .int .i64 z.vote, .int .i64 c', .int .i64 0, .int .i64 k, .int .i64 (lastS 0 z.t z.l).2, .int .i64 z.elapsed, .int .i64 z.timeout, .int .i64 z.round, .slice q5 zn d5] 41))
          have HB6 : Hid (Below w5.heap.size w5 (w5.alloc (.cells #[.int .i64 z.id, .int .i64 z.role, .int .i64 z.lead, .int .i64 z.term, .int .i64 z.vote, .int .i64 c', .int .i64 0, .int .i64 k, .int .i64 (lastS 0 z.t z.l).2, .int .i64 z.elapsed, .int .i64 z.timeout, .int .i64 z.round, .slice q5 zn d5] 41))) := Lib.hid ((Below.refl _ w5).alloc (Nat.le_refl _) _)
          generalize w5.alloc (.cells #[.int .i64 z.id, .int .i64 z.role, .int .i64 z.lead, .int .i64 z.term, .int .i64 z.vote, .int .i64 c', .int .i64 0, .int .i64 k, .int .i64 (lastS 0 z.t z.l).2, .int .i64 z.elapsed, .int .i64 z.timeout, .int .i64 z.round, .slice q5 zn d5] 41) = W6 at *
          go_wp2_with fail
          with_reducible refine (HAL.out _).mono ?_
          rintro e w7 ⟨rfl, hb7⟩
          have HB7 := Lib.hid (HB6.out.trans (hb7.mono HB6.out.size))
          have X16'' := X16'.below hb7
          have X17' := X17.below hb7
          have x0 := X16''.1 0 _ rfl
          have x1 := X16''.1 1 _ rfl
          have y5 := X17'.1 5 _ rfl
          have y6 := X17'.1 6 _ rfl
          have y7 := X17'.1 7 _ rfl
          clear hb7 X16'' X17' X16' X17
          go_wp2
          go_ret
          exact ⟨rfl, HB5.out.trans (HB7.out.mono HB5.out.size)⟩
        · have hk3 : ix ≤ (c' : Int) := by omega
          have d1 : decide ((c' : Int) < ix) = false := decide_eq_false hk1
          clear hok
          go_upto_region 18 with fail
          have X17 := CBox.fresh w5 [.int .i64 z.id, .int .i64 z.role, .int .i64 z.lead, .int .i64 z.term, .int .i64 z.vote, .int .i64 c', .int .i64 0, .int .i64 k, .int .i64 (lastS 0 z.t z.l).2, .int .i64 z.elapsed, .int .i64 z.timeout, .int .i64 z.round, .slice q5 zn d5] 41
          dsimp only [List.toArray] at X17
          have X16' := X16.below ((Below.refl _ w5).alloc (Nat.le_refl _) (.cells #[.int .i64 z.id, .int .i64 z.role, .int .i64 z.lead, .int .i64 z.term, .int .i64 z.vote, .int .i64 c', .int .i64 0, .int .i64 k, .int .i64 (lastS 0 z.t z.l).2, .int .i64 z.elapsed, .int .i64 z.timeout, .int .i64 z.round, .slice q5 zn d5] 41))
          have HB6 : Hid (Below w5.heap.size w5 (w5.alloc (.cells #[.int .i64 z.id, .int .i64 z.role, .int .i64 z.lead, .int .i64 z.term, .int .i64 z.vote, .int .i64 c', .int .i64 0, .int .i64 k, .int .i64 (lastS 0 z.t z.l).2, .int .i64 z.elapsed, .int .i64 z.timeout, .int .i64 z.round, .slice q5 zn d5] 41))) := Lib.hid ((Below.refl _ w5).alloc (Nat.le_refl _) _)
          generalize w5.alloc (.cells #[.int .i64 z.id, .int .i64 z.role, .int .i64 z.lead, .int .i64 z.term, .int .i64 z.vote, .int .i64 c', .int .i64 0, .int .i64 k, .int .i64 (lastS 0 z.t z.l).2, .int .i64 z.elapsed, .int .i64 z.timeout, .int .i64 z.round, .slice q5 zn d5] 41) = W6 at *
          go_wp2_with fail
          with_reducible refine (HAL.out _).mono ?_
          rintro e w7 ⟨rfl, hb7⟩
          have HB7 := Lib.hid (HB6.out.trans (hb7.mono HB6.out.size))
          have X16'' := X16'.below hb7
          have X17' := X17.below hb7
          have x0 := X16''.1 0 _ rfl
          have x1 := X16''.1 1 _ rfl
          have y5 := X17'.1 5 _ rfl
          have y6 := X17'.1 6 _ rfl
          have y7 := X17'.1 7 _ rfl
          clear hb7 X16'' X17' X16' X17
          go_wp2
          go_ret
          exact ⟨rfl, HB5.out.trans (HB7.out.mono HB5.out.size)⟩
end RF
end Go.Proofs.YtaodldagmmephaaGreat
