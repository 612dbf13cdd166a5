/- arboretumlaw20.RaftCommits returns true, whatever its arguments. -/
import Derived.Test.YtaodldagmmephaaGreatRk2
namespace Go.Proofs.YtaodldagmmephaaGreat
open Go.RowKit Go.Maps
namespace RF
section
variable {rb base : Nat} {s : RS} {h : Hd} {w : World} {M : Int} {N : Nat}
/-- The law's state as it goes on. -/
structure Cmi (n c rb B0 b9 i : Nat) (w : World) (s : RS) (h : Hd) (A R : List Int) (W : World) : Prop where
  cl : h.clean
  rf : Rf rb B0 s h W
  bd : RB ((30 + c + i : Nat) : Int) (30 + c + i) s
  hd : Heard n (gP n c) s A R
  cm : s.commit = s.far s.last Pr.mt
  bx : CBox b9 (icells A) W
  nf : ¬ Fo rb h b9
  lo : w.heap.size ≤ B0
  b9 : w.heap.size ≤ b9
  bel : Below w.heap.size w W
  out : s.out = ot0
theorem Cmi.below {n c rb B0 b9 i : Nat} {w : World} {s : RS} {h : Hd} {A R : List Int} {W W' : World} (C : Cmi n c rb B0 b9 i w s h A R W) (hb : Below W.heap.size W W') : Cmi n c rb B0 b9 i w s h A R W' :=
  ⟨C.cl, C.rf.below hb, C.bd, C.hd, C.cm, C.bx.below hb, C.nf, C.lo, C.b9, C.bel.trans (hb.mono C.bel.size), C.out⟩
theorem Cmi.set {n c rb B0 b9 i : Nat} {w : World} {s : RS} {h : Hd} {A R : List Int} {W : World} (C : Cmi n c rb B0 b9 i w s h A R W) (f : Nat) (hf : f < 6) (x : Int) : CBox b9 (icells (A.set f x)) (W.setCell ⟨b9, f, none⟩ (.int .i64 x)) := by
  have := C.bx.set f (.int .i64 x) (by rw [icells_len, C.hd.len.1]; exact hf)
  rwa [icells_set] at this
theorem kc_le (A : List Int) (x : Int) : ∀ m, kc A x m ≤ m + 1
  | 0 => Nat.le_refl _
  | m + 1 => by
    have ih := kc_le A x m
    show (if x ≤ HL.el A (m + 2) then kc A x m + 1 else kc A x m) ≤ m + 2
    split <;> omega
theorem kc_next (A : List Int) (x : Int) {j : Nat} (hj : 2 ≤ j) : kc A x (j + 1 - 2) = if x ≤ HL.el A j then kc A x (j - 2) + 1 else kc A x (j - 2) := by
  obtain ⟨m, rfl⟩ : ∃ m, j = m + 2 := ⟨j - 2, by omega⟩
  rw [show m + 2 + 1 - 2 = m + 1 by omega, show m + 2 - 2 = m by omega]
  rfl
end
set_option maxHeartbeats 2000000 in
set_option maxRecDepth 100000 in
theorem commits_walk (n c : Int) (p : Option Addr) (len cap : Nat) (zs : List Int) (w : World) (hrd : RdI w w.heap.size p len zs) :
    Calls Tryz.prog 5 #[.int .i64 n, .int .i64 c, .slice p len cap] w fun e w' => e = .returned (.bool true) ∧ Below w.heap.size w w' := by
  have HAL := Lib.hid (fun W => alive_true W)
  have HRD := Lib.hid hrd
  clear hrd
  go_enter Tryz.func5, Tryz.ntmps5
  go_upto_region 1 with fail
  go_cut [38] (fun s38 wx => ∃ β : Bool, s38 = .bool β ∧ wx = w ∧ Hid (Dec β (¬ (1 ≤ n ∧ n ≤ 5 ∧ 0 ≤ c ∧ c ≤ 20 ∧ (len : Int) ≤ 60))))
  case first =>
    by_cases hz0 : 1 ≤ n
    case neg =>
      have HN : Hid (Dec true (¬ (1 ≤ n ∧ n ≤ 5 ∧ 0 ≤ c ∧ c ≤ 20 ∧ (len : Int) ≤ 60))) := Lib.hid (Dec.t (fun h => hz0 h.1))
      have hy0 : n < 1 := by omega
      have dz0 : decide (n < 1) = true := decide_eq_true hy0
      go_wp2
      go_meet
      case rel => exact ⟨_, rfl, rfl, HN⟩
    have dz0 : decide (n < 1) = false := decide_eq_false (by omega)
    by_cases hz1 : n ≤ 5
    case neg =>
      have HN : Hid (Dec true (¬ (1 ≤ n ∧ n ≤ 5 ∧ 0 ≤ c ∧ c ≤ 20 ∧ (len : Int) ≤ 60))) := Lib.hid (Dec.t (fun h => hz1 h.2.1))
      have hy1 : 5 < n := by omega
      have dz1 : decide (5 < n) = true := decide_eq_true hy1
      go_wp2
      go_meet
      case rel => exact ⟨_, rfl, rfl, HN⟩
    have dz1 : decide (5 < n) = false := decide_eq_false (by omega)
    by_cases hz2 : 0 ≤ c
    case neg =>
      have HN : Hid (Dec true (¬ (1 ≤ n ∧ n ≤ 5 ∧ 0 ≤ c ∧ c ≤ 20 ∧ (len : Int) ≤ 60))) := Lib.hid (Dec.t (fun h => hz2 h.2.2.1))
      have hy2 : c < 0 := by omega
      have dz2 : decide (c < 0) = true := decide_eq_true hy2
      go_wp2
      go_meet
      case rel => exact ⟨_, rfl, rfl, HN⟩
    have dz2 : decide (c < 0) = false := decide_eq_false (by omega)
    by_cases hz3 : c ≤ 20
    case neg =>
      have HN : Hid (Dec true (¬ (1 ≤ n ∧ n ≤ 5 ∧ 0 ≤ c ∧ c ≤ 20 ∧ (len : Int) ≤ 60))) := Lib.hid (Dec.t (fun h => hz3 h.2.2.2.1))
      have hy3 : 20 < c := by omega
      have dz3 : decide (20 < c) = true := decide_eq_true hy3
      go_wp2
      go_meet
      case rel => exact ⟨_, rfl, rfl, HN⟩
    have dz3 : decide (20 < c) = false := decide_eq_false (by omega)
    by_cases hz4 : (len : Int) ≤ 60
    case neg =>
      have HN : Hid (Dec true (¬ (1 ≤ n ∧ n ≤ 5 ∧ 0 ≤ c ∧ c ≤ 20 ∧ (len : Int) ≤ 60))) := Lib.hid (Dec.t (fun h => hz4 h.2.2.2.2))
      have hy4 : 60 < (len : Int) := by omega
      have dz4 : decide (60 < (len : Int)) = true := decide_eq_true hy4
      go_wp2
      go_meet
      case rel => exact ⟨_, rfl, rfl, HN⟩
    have dz4 : decide (60 < (len : Int)) = false := decide_eq_false (by omega)
    have HN : Hid (Dec false (¬ (1 ≤ n ∧ n ≤ 5 ∧ 0 ≤ c ∧ c ≤ 20 ∧ (len : Int) ≤ 60))) := Lib.hid (Dec.f (fun h => h ⟨hz0, hz1, hz2, hz3, hz4⟩))
    go_wp2
    go_meet
    case rel => exact ⟨_, rfl, rfl, HN⟩
  case rest =>
  obtain ⟨β, rfl, hwc, HBE⟩ := hcut
  have hwc := hwc.symm
  subst hwc
  cases β with
  | true =>
    have HAC := Lib.hid (HAL.out w)
    go_wp2_with fail
    with_reducible refine (HAC.out).mono ?_
    rintro e w2 ⟨rfl, hb2⟩
    have HB2 := Lib.hid hb2
    go_wp2
    go_ret
    exact ⟨rfl, HB2.out⟩
  | false =>
  have hbd : 1 ≤ n ∧ n ≤ 5 ∧ 0 ≤ c ∧ c ≤ 20 ∧ (len : Int) ≤ 60 := by
    by_cases h9 : 1 ≤ n ∧ n ≤ 5 ∧ 0 ≤ c ∧ c ≤ 20 ∧ (len : Int) ≤ 60
    · exact h9
    · have := HBE.out.2 h9; cases this
  clear HBE
  obtain ⟨n', rfl⟩ := Int.eq_ofNat_of_zero_le (show 0 ≤ n by omega)
  obtain ⟨c', rfl⟩ := Int.eq_ofNat_of_zero_le hbd.2.2.1
  have h1 : 1 ≤ n' := by omega
  have h5 : n' ≤ 5 := by omega
  have hc20 : c' ≤ 20 := by omega
  have hlen : len ≤ 60 := by omega
  clear hbd
  have HGR := Lib.hid (grown_walk n' c' h1 h5 hc20 w)
  have HG := Lib.hid (gP_lead n' c' h1 h5 hc20)
  have HGB := Lib.hid (gP_rb n' h1 (by omega) c' (by omega))
  have HGO := Lib.hid (gP_out n' c')
  have HDV : Hid ((n' : Int).tdiv 2 = ((n' / 2 : Nat) : Int)) := Lib.hid (by rw [Int.tdiv_eq_ediv_of_nonneg (by omega)]; omega)
  obtain ⟨g, hg⟩ : ∃ g, g = gP n' c' := ⟨_, rfl⟩
  go_wp2_with fail
  with_reducible refine (HGR.out).mono ?_
  rintro e W1 ⟨rb, h, B0, rfl, hcl, hB0, hr1, hb1⟩
  go_upto_region 7 with fail
  have X0 := CBox.fresh W1 (icells zero6) 53
  have hb2 : Below W1.heap.size W1 (W1.alloc (.cells (icells zero6).toArray 53)) := (Below.refl _ W1).alloc (Nat.le_refl _) _
  have HC0 : Hid (Cmi n' c' rb B0 W1.heap.size 0 w (gP n' c') h zero6 zero6 (W1.alloc (.cells (icells zero6).toArray 53))) := Lib.hid ⟨hcl, hr1.below hb2, HGB.out, HG.out.2.2.1, HG.out.2.2.2.1, X0, fun e => by have := (hr1.lt e).2; omega, hB0, hb1.size, hb1.trans (hb2.mono hb1.size), HGO.out⟩
  unfold icells zero6 at HC0
  dsimp only [List.toArray, List.map] at HC0
  clear X0 hb2 hcl hB0 hr1 hb1 HGR
  generalize W1.alloc (.cells #[.int .i64 0, .int .i64 0, .int .i64 0, .int .i64 0, .int .i64 0, .int .i64 0] 53) = W2 at *
  have HC : Hid (Cmi n' c' rb B0 W1.heap.size 0 w (gP n' c') h zero6 zero6 W2) := Lib.hid HC0.out
  clear HC0
  generalize W1.heap.size = b9 at *
  have HSV := Lib.hid (rf_state HC.out.rf HC.out.bd)
  go_wp2_with fail
  with_reducible refine (HSV.out).mono ?_
  rintro e W3 ⟨v3, rfl, ho3, hb3⟩
  obtain ⟨p3, c3, hv3⟩ := owns_slice ho3
  subst hv3
  have HC3 := Lib.hid (HC.out.below hb3)
  clear ho3 hb3 HSV HC
  (try clear W2)
  unfold stateV
  generalize hz : gP n' c' = z at *
  have hfd : (Instr.field 41 (.agg #[.int .i64 z.id, .int .i64 z.role, .int .i64 z.lead, .int .i64 z.term, .int .i64 z.vote, .int .i64 z.commit, .int .i64 z.b, .int .i64 (lastS z.b z.t z.l).1, .int .i64 (lastS z.b z.t z.l).2, .int .i64 z.elapsed, .int .i64 z.timeout, .int .i64 z.round, .slice p3 z.all.length c3]) 5).run Tryz.prog W3 = .ok (.int .i64 z.commit) W3 := by kernel_rfl
  go_wp2_with fail
  go_loopw [10, 11] (fun wv iv wr => ∃ (i : Nat) (s : RS) (h : Hd) (A R : List Int), i ≤ len ∧ wv = .int .i64 s.commit ∧ iv = .int .i64 i ∧ Hid (Cmi n' c' rb B0 b9 i w s h A R wr)) (fun _ iv _ => len - (intOf iv).toNat)
  case atStart => exact ⟨0, z, h, zero6, zero6, Nat.zero_le _, rfl, rfl, HC3⟩
  case round =>
    obtain ⟨i, s, h', A, R, hi, rfl, rfl, HR⟩ := hrel
    by_cases hlt : i < len
    case neg =>
      have hltI : ¬ ((i : Int) < (len : Int)) := by omega
      have HAC := Lib.hid (HAL.out wr)
      have HBW := Lib.hid HR.out.bel
      have hc1 : n' = 1 → s.commit = (c' : Int) + 1 := fun e => by
        have hL := HG.out.1
        have hH := HR.out.hd
        rw [hz] at hH
        have hl : s.last = z.last := (Core.all hH.core).2.2.1
        have ht := hH.far_top hL s.last Pr.mt A hH.mtB (fun i => by rw [hl]; exact (hH.al i).2)
        have hu := (hH.far_of hL s.last Pr.mt A hH.mtB s.last (Int.le_refl _)).2 (by
          subst e
          show 1 / 2 < 1
          omega)
        rw [← HR.out.cm, hl, HG.out.2.1] at ht
        rw [← HR.out.cm, hl, HG.out.2.1] at hu
        omega
      have hw1 : IntKind.i64.wrap ((c' : Int) + 1) = (c' : Int) + 1 := IntWalk.i64_in _ (by omega)
      go_wp2_with fail
      with_reducible refine (HAC.out).mono ?_
      rintro e W4 ⟨rfl, hb4⟩
      have HBF := Lib.hid (HBW.out.trans (hb4.mono HBW.out.size))
      clear hb4
      by_cases hn1 : 1 < n'
      · have d1 : decide (1 < (n' : Int)) = true := decide_eq_true (by omega)
        clear hc1
        go_wp2
        go_ret
        exact ⟨rfl, HBF.out⟩
      · have d1 : decide (1 < (n' : Int)) = false := decide_eq_false (by omega)
        have hce := hc1 (by omega)
        rw [hce]
        clear hc1 hce
        go_wp2
        go_ret
        exact ⟨rfl, HBF.out⟩
    case pos =>
    have hltI : (i : Int) < (len : Int) := by omega
    obtain ⟨pb, po, hpe, hpb, hpc⟩ := HRD.out.2 (by omega)
    subst hpe
    have hcell : wr.cell? ⟨pb, po + i, none⟩ = some (.int .i64 (HL.el zs i)) := (HR.out.bel.cell (p := ⟨pb, po + i, none⟩) hpb).trans (hpc i (by omega))
    generalize HL.el zs i = a at *
    obtain ⟨f, hf⟩ : ∃ f : Nat, f = (a % 4).toNat + 2 := ⟨_, rfl⟩
    obtain ⟨y, hy⟩ : ∃ y : Nat, y = (a / 4 % 32).toNat := ⟨_, rfl⟩
    have hf2 : 2 ≤ f := by omega
    have hf5 : f ≤ 5 := by omega
    have hy31 : y ≤ 31 := by omega
    have hb3 : bits BinOp.and IntKind.i64 a 3 = (f : Int) - 2 := by rw [and3]; omega
    have hb31 : bits BinOp.and IntKind.i64 (a / 4) 31 = (y : Int) := by rw [and31]; omega
    have hw2 : IntKind.i64.wrap (2 + ((f : Int) - 2)) = (f : Int) := by rw [show (2 : Int) + ((f : Int) - 2) = (f : Int) by omega]; exact IntWalk.i64_in _ (by omega)
    clear hf hy
    have HST := Lib.hid (rf_stepS 4 (f : Int) 1 (y : Int) 0 true HR.out.rf HR.out.bd (by omega) (by omega) (by
      have := (Core.parts HR.out.hd.core).2.2.2.2.2.2.2.2.2
      rw [this, hz]; exact HG.out.2.2.2.2.1) HR.out.cl HR.out.out (by omega) (by omega))
    have HSP := Lib.hid (HR.out.hd.step (by rw [hz]; exact HG.out.1) HR.out.cm f hf2 hf5 (y : Int) 0 (by omega) (by omega))
    have HBS := Lib.hid ((HR.out.bd.stepS 4 (f : Int) 1 (y : Int) 0 true (by omega) (by omega)).fin)
    go_wp2_with fail
    with_reducible refine (HST.out).mono ?_
    rintro e W4 ⟨v4, h4, rfl, hcl4, hr4, hp4, _⟩
    have HCL4 := Lib.hid hcl4
    have hb4 : Below w.heap.size wr W4 := hp4.1.below HR.out.bel.size (fun k hk => Nat.le_trans HR.out.lo (HR.out.rf.lt hk).1)
    have HB4 := Lib.hid (HR.out.bel.trans hb4)
    have HX4 := Lib.hid (HR.out.bx.keep hp4.1 HR.out.nf)
    have HNF : Hid (¬ Fo rb h4 b9) := Lib.hid (hp4.off HR.out.bx.2.2 HR.out.nf)
    have HR4 := Lib.hid (show Rf rb B0 (s.stepF (smg 4 (f : Int) 1 (y : Int) 0 true)) h4 W4 from hr4)
    have HLO := Lib.hid (And.intro HR.out.lo HR.out.b9)
    have HLA := Lib.hid HR.out.hd.len.1
    have HBS2 : Hid (RB ((30 + c' + (i + 1) : Nat) : Int) (30 + c' + (i + 1)) (s.stepF (smg 4 (f : Int) 1 (y : Int) 0 true))) := Lib.hid (by
      have h := HBS.out
      rw [show ((30 + c' + i : Nat) : Int) + 1 = ((30 + c' + (i + 1) : Nat) : Int) by omega] at h
      exact h)
    have HO4 : Hid ((s.stepF (smg 4 (f : Int) 1 (y : Int) 0 true)).out = ot0) := Lib.hid rfl
    clear hcl4 hr4 hp4 hb4 HST HBS hcell hb3 hb31 hw2
    rw [hz, HG.out.2.1] at HSP
    generalize s.stepF (smg 4 (f : Int) 1 (y : Int) 0 true) = s4 at *
    obtain ⟨A', hA'⟩ : ∃ A', A' = (if f ≤ n' ∧ (y : Int) ≤ (c' : Int) + 1 then upd A f (y : Int) else A) := ⟨_, rfl⟩
    generalize (if f ≤ n' ∧ (y : Int) ≤ (c' : Int) + 1 ∧ (0 : Int) ≤ z.round then upd R f 0 else R) = R' at HSP
    rw [← hA'] at HSP
    have hl4 : (lastS s4.b s4.t s4.l).1 = (c' : Int) + 1 := (Core.all HSP.out.1.core).2.2.1.trans HG.out.2.1
    have HSV := Lib.hid (rf_state HR4.out HBS2.out)
    go_wp2_with fail
    with_reducible refine (HSV.out).mono ?_
    rintro e W5 ⟨v5, rfl, ho5, hb5⟩
    obtain ⟨p5, c5, hv5⟩ := owns_slice ho5
    subst hv5
    have HB5 := Lib.hid (HB4.out.trans (hb5.mono HB4.out.size))
    have HX5 := Lib.hid (HX4.out.below hb5)
    have HR5 := Lib.hid (HR4.out.below hb5)
    clear ho5 hb5 HSV HX4 HR4 HB4
    (try clear W4)
    unfold stateV
    rw [hl4]
    generalize s4.all.length = n5 at *
    go_upto_region 15 with fail
    have Y0 := CBox.fresh W5 [.int .i64 s4.id, .int .i64 s4.role, .int .i64 s4.lead, .int .i64 s4.term, .int .i64 s4.vote, .int .i64 s4.commit, .int .i64 s4.b, .int .i64 ((c' : Int) + 1), .int .i64 (lastS s4.b s4.t s4.l).2, .int .i64 s4.elapsed, .int .i64 s4.timeout, .int .i64 s4.round, .slice p5 n5 c5] 41
    have hb6 : Below W5.heap.size W5 (W5.alloc (.cells [.int .i64 s4.id, .int .i64 s4.role, .int .i64 s4.lead, .int .i64 s4.term, .int .i64 s4.vote, .int .i64 s4.commit, .int .i64 s4.b, .int .i64 ((c' : Int) + 1), .int .i64 (lastS s4.b s4.t s4.l).2, .int .i64 s4.elapsed, .int .i64 s4.timeout, .int .i64 s4.round, .slice p5 n5 c5].toArray 41)) := (Below.refl _ W5).alloc (Nat.le_refl _) _
    dsimp only [List.toArray] at Y0 hb6
    generalize W5.alloc (.cells #[.int .i64 s4.id, .int .i64 s4.role, .int .i64 s4.lead, .int .i64 s4.term, .int .i64 s4.vote, .int .i64 s4.commit, .int .i64 s4.b, .int .i64 ((c' : Int) + 1), .int .i64 (lastS s4.b s4.t s4.l).2, .int .i64 s4.elapsed, .int .i64 s4.timeout, .int .i64 s4.round, .slice p5 n5 c5] 41) = W6 at *
    have HB6 := Lib.hid (HB5.out.trans (hb6.mono HB5.out.size))
    have HX6 := Lib.hid (HX5.out.below hb6)
    have HR6 := Lib.hid (HR5.out.below hb6)
    have HN6 : Hid (b9 ≠ W5.heap.size) := Lib.hid (Nat.ne_of_lt HX5.out.2.2)
    generalize W5.heap.size = b15 at *
    have HY6 := Lib.hid Y0
    clear Y0 hb6 HX5 HR5 HB5
    (try clear W5)
    have y7 := HY6.out.1 7 _ rfl
    go_cut [82] (fun s82 wx => ∃ β : Bool, s82 = .bool β ∧ wx = W6 ∧ Hid (Dec β (f ≤ n' ∧ (y : Int) ≤ (c' : Int) + 1)))
    case first =>
      by_cases hfn : f ≤ n'
      · have d1 : decide ((f : Int) ≤ (n' : Int)) = true := decide_eq_true (by omega)
        by_cases hyl : (y : Int) ≤ (c' : Int) + 1
        · have d2 : decide ((y : Int) ≤ (c' : Int) + 1) = true := decide_eq_true hyl
          have HD : Hid (Dec true (f ≤ n' ∧ (y : Int) ≤ (c' : Int) + 1)) := Lib.hid (Dec.t ⟨hfn, hyl⟩)
          go_wp2
          go_meet
          case rel => exact ⟨_, rfl, rfl, HD⟩
        · have hyl2 : (c' : Int) + 1 < (y : Int) := by omega
          have d2 : decide ((y : Int) ≤ (c' : Int) + 1) = false := decide_eq_false hyl
          have HD : Hid (Dec false (f ≤ n' ∧ (y : Int) ≤ (c' : Int) + 1)) := Lib.hid (Dec.f (fun h => hyl h.2))
          go_wp2
          go_meet
          case rel => exact ⟨_, rfl, rfl, HD⟩
      · have hfn2 : n' < f := by omega
        have d1 : decide ((f : Int) ≤ (n' : Int)) = false := decide_eq_false (by omega)
        have HD : Hid (Dec false (f ≤ n' ∧ (y : Int) ≤ (c' : Int) + 1)) := Lib.hid (Dec.f (fun h => hfn h.1))
        go_wp2
        go_meet
        case rel => exact ⟨_, rfl, rfl, HD⟩
    case rest =>
    obtain ⟨β, rfl, hwc, HD⟩ := hcut
    have hwc := hwc.symm
    subst hwc
    go_upto_if 82 with fail
    go_cut [] (fun wx => Hid (CBox b9 (icells A') wx ∧ Rf rb B0 s4 h4 wx ∧ Below w.heap.size w wx ∧ wx.cell? ⟨b15, 7, none⟩ = some (.int .i64 ((c' : Int) + 1)) ∧ wx.cell? ⟨b15, 5, none⟩ = some (.int .i64 s4.commit) ∧ wx.frozen? ⟨b15, 5, none⟩ = false))
    case first =>
      cases β with
      | true =>
        have hfy := HD.out.1 rfl
        have hAe : A' = upd A f (y : Int) := by rw [hA', if_pos hfy]
        have cf := HX6.out.1 f _ (icells_at (by rw [HLA.out]; omega))
        have ff := HX6.out.2.1 f (by rw [icells_len, HLA.out]; omega)
        have hset := HX6.out.set f (.int .i64 (max (HL.el A f) (y : Int))) (by rw [icells_len, HLA.out]; omega)
        rw [icells_set] at hset
        have hF9 : Fr (fun k => k = b9) W6 (W6.setCell ⟨b9, f, none⟩ (.int .i64 (max (HL.el A f) (y : Int)))) := (Fr.refl (fun k => k = b9) W6).setCell (p := ⟨b9, f, none⟩) (fun _ => rfl) _
        have HF : Hid (CBox b9 (icells A') (W6.setCell ⟨b9, f, none⟩ (.int .i64 (max (HL.el A f) (y : Int)))) ∧ Rf rb B0 s4 h4 (W6.setCell ⟨b9, f, none⟩ (.int .i64 (max (HL.el A f) (y : Int)))) ∧ Below w.heap.size w (W6.setCell ⟨b9, f, none⟩ (.int .i64 (max (HL.el A f) (y : Int)))) ∧ (W6.setCell ⟨b9, f, none⟩ (.int .i64 (max (HL.el A f) (y : Int)))).cell? ⟨b15, 7, none⟩ = some (.int .i64 ((c' : Int) + 1)) ∧ (W6.setCell ⟨b9, f, none⟩ (.int .i64 (max (HL.el A f) (y : Int)))).cell? ⟨b15, 5, none⟩ = some (.int .i64 s4.commit) ∧ (W6.setCell ⟨b9, f, none⟩ (.int .i64 (max (HL.el A f) (y : Int)))).frozen? ⟨b15, 5, none⟩ = false) := Lib.hid ⟨by rw [hAe]; exact hset, HR6.out.keep hF9 (fun k hk e => HNF.out (by rw [← e]; exact hk)), HB6.out.setCell (p := ⟨b9, f, none⟩) HLO.out.2 _, (hF9.cell (p := ⟨b15, 7, none⟩) HY6.out.2.2 (fun e => HN6.out e.symm)).trans (HY6.out.1 7 _ rfl), (hF9.cell (p := ⟨b15, 5, none⟩) HY6.out.2.2 (fun e => HN6.out e.symm)).trans (HY6.out.1 5 _ rfl), (hF9.frozen (p := ⟨b15, 5, none⟩) HY6.out.2.2 (fun e => HN6.out e.symm)).trans (HY6.out.2.1 5 (by show 5 < 13; omega))⟩
        have hf6 : f < 6 := by omega
        clear hset hF9 hAe hA' hfy HD
        generalize HL.el A f = m0 at *
        go_wp2
        go_meet
        case rel => exact HF
      | false =>
        have HF : Hid (CBox b9 (icells A') W6 ∧ Rf rb B0 s4 h4 W6 ∧ Below w.heap.size w W6 ∧ W6.cell? ⟨b15, 7, none⟩ = some (.int .i64 ((c' : Int) + 1)) ∧ W6.cell? ⟨b15, 5, none⟩ = some (.int .i64 s4.commit) ∧ W6.frozen? ⟨b15, 5, none⟩ = false) := Lib.hid ⟨by rw [hA', if_neg (fun h => by have := HD.out.2 h; cases this)]; exact HX6.out, HR6.out, HB6.out, HY6.out.1 7 _ rfl, HY6.out.1 5 _ rfl, HY6.out.2.1 5 (by show 5 < 13; omega)⟩
        clear hA' HD
        go_wp2
        go_meet
        case rel => exact HF
    case rest =>
    obtain ⟨hx7, hr7, hb7, hc7, hc5, hz5⟩ := hcut.out
    generalize wc = W7 at *
    have HX7 := Lib.hid hx7
    have HR7 := Lib.hid hr7
    have HB7 := Lib.hid hb7
    have HZ5 := Lib.hid hz5
    clear hcut hx7 hr7 hb7 hz5 HX6 HR6 HB6 HY6 y7 hA' HN6
    (try clear W6)
    have HF4 : Hid (∀ x : Int, x ≤ (c' : Int) + 1 → (x ≤ s4.commit ↔ n' / 2 < kc A' x (n' - 1))) := Lib.hid (fun x hx => by
      have h := HSP.out.1.far_of HG.out.1 s4.last Pr.mt A' HSP.out.1.mtB x (by rw [show s4.last = (c' : Int) + 1 from hl4]; exact hx)
      rw [← HSP.out.2.1] at h
      exact h)
    have hct : s4.commit ≤ (c' : Int) + 1 := by
      have h := HSP.out.1.far_top HG.out.1 s4.last Pr.mt A' HSP.out.1.mtB (fun i => by rw [show s4.last = (c' : Int) + 1 from hl4, ← HG.out.2.1]; exact (HSP.out.1.al i).2)
      rw [← HSP.out.2.1, show s4.last = (c' : Int) + 1 from hl4] at h
      exact h
    have hcl : 0 ≤ s4.commit := HBS2.out.commit.1
    have HLA' := Lib.hid HSP.out.1.len.1
    have hdv := HDV.out
    generalize n' / 2 = q at hdv HF4
    go_wp2
    go_loopw [16, 17] (fun bv xv wx => ∃ X : Nat, X ≤ c' + 1 ∧ bv = .int .i64 (min (X : Int) s4.commit) ∧ xv = .int .i64 ((X : Int) + 1) ∧ wx = W7) (fun _ xv _ => c' + 2 - (intOf xv).toNat)
    case atStart => exact ⟨0, Nat.zero_le _, by rw [show min ((0 : Nat) : Int) s4.commit = 0 by omega], rfl, rfl⟩
    case round =>
      obtain ⟨X, hX, rfl, rfl, hwx⟩ := hrel
      have hwx := hwx.symm
      subst hwx
      by_cases hXl : X < c' + 1
      case pos =>
        have hltX : (X : Int) + 1 ≤ (c' : Int) + 1 := by omega
        go_wp2
        go_loopw [18, 19] (fun kv jv wx => ∃ j : Nat, 2 ≤ j ∧ j ≤ n' + 1 ∧ kv = .int .i64 (kc A' ((X : Int) + 1) (j - 2) : Nat) ∧ jv = .int .i64 (j : Int) ∧ wx = W7) (fun _ jv _ => n' + 2 - (intOf jv).toNat)
        case atStart => exact ⟨2, Nat.le_refl _, by omega, rfl, rfl, rfl⟩
        case round =>
          obtain ⟨j, hj2, hjn, rfl, rfl, hwx⟩ := hrel
          have hwx := hwx.symm
          subst hwx
          by_cases hjl : j ≤ n'
          case pos =>
            have hjI : (j : Int) ≤ (n' : Int) := by omega
            have hj6 : j < 6 := by omega
            have cj := HX7.out.1 j _ (icells_at (by rw [HLA'.out]; omega))
            have hkb := kc_le A' ((X : Int) + 1) (j - 2)
            have hks := kc_next A' ((X : Int) + 1) hj2
            have hwj : IntKind.i64.wrap ((j : Int) + 1) = (j : Int) + 1 := IntWalk.i64_in _ (by omega)
            have HKS := Lib.hid hks
            clear hks
            generalize kc A' ((X : Int) + 1) (j - 2) = k at *
            generalize HL.el A' j = e at *
            have hwk : IntKind.i64.wrap ((k : Int) + 1) = (k : Int) + 1 := IntWalk.i64_in _ (by omega)
            by_cases hx : (X : Int) + 1 ≤ e
            · have HE : Hid (kc A' ((X : Int) + 1) (j + 1 - 2) = k + 1) := Lib.hid (by rw [HKS.out, if_pos hx])
              clear HKS
              go_wp2
              go_roundw
              case rel => exact ⟨j + 1, by omega, by omega, by rw [HE.out]; go_num, by go_num, trivial⟩
              case measure => simp [intOf]; omega
            · have HE : Hid (kc A' ((X : Int) + 1) (j + 1 - 2) = k) := Lib.hid (by rw [HKS.out, if_neg hx])
              have hx2 : e < (X : Int) + 1 := by omega
              clear HKS
              go_wp2
              go_roundw
              case rel => exact ⟨j + 1, by omega, by omega, by rw [HE.out], by go_num, trivial⟩
              case measure => simp [intOf]; omega
          case neg =>
            have hjI : (n' : Int) < (j : Int) := by omega
            obtain rfl : j = n' + 1 := by omega
            have HQ := Lib.hid (HF4.out ((X : Int) + 1) hltX)
            rw [show n' - 1 = n' + 1 - 2 by omega] at HQ
            have hwX : IntKind.i64.wrap ((X : Int) + 1 + 1) = (X : Int) + 1 + 1 := IntWalk.i64_in _ (by omega)
            generalize kc A' ((X : Int) + 1) (n' + 1 - 2) = k at *
            by_cases hq : q < k
            · have hqI : (n' : Int) / 2 < (k : Int) := by rw [Int.tdiv_eq_ediv_of_nonneg (by omega)] at hdv; omega
              have hxc : (X : Int) + 1 ≤ s4.commit := HQ.out.2 hq
              have HE : Hid (min ((X + 1 : Nat) : Int) s4.commit = (X : Int) + 1) := Lib.hid (by omega)
              clear hxc HQ hdv hq
              go_wp2
              go_roundw
              case rel => exact ⟨X + 1, by omega, by rw [HE.out], by go_num, trivial⟩
              case measure => simp [intOf]; omega
            · have hqI : (k : Int) ≤ (n' : Int) / 2 := by rw [Int.tdiv_eq_ediv_of_nonneg (by omega)] at hdv; omega
              have hxc : ¬ (X : Int) + 1 ≤ s4.commit := fun h => hq (HQ.out.1 h)
              have HE : Hid (min ((X + 1 : Nat) : Int) s4.commit = min (X : Int) s4.commit) := Lib.hid (by omega)
              clear hxc HQ hdv hq
              go_wp2
              go_roundw
              case rel => exact ⟨X + 1, by omega, by rw [HE.out], by go_num, trivial⟩
              case measure => simp [intOf]; omega
      case neg =>
        have hltX : (c' : Int) + 1 < (X : Int) + 1 := by omega
        have hmin : min (X : Int) s4.commit = s4.commit := by omega
        rw [hmin]
        have hmon := HSP.out.2.2
        have hwi : IntKind.i64.wrap ((i : Int) + 1) = (i : Int) + 1 := IntWalk.i64_in _ (by omega)
        have HF : Hid (Cmi n' c' rb B0 b9 (i + 1) w s4 h4 A' R' W7) := Lib.hid ⟨HCL4.out, HR7.out, HBS2.out, by rw [hz]; exact HSP.out.1, HSP.out.2.1, HX7.out, HNF.out, HLO.out.1, HLO.out.2, HB7.out, HO4.out⟩
        clear hmin HF4 hct hcl
        go_wp2
        go_roundw
        case rel => exact ⟨i + 1, s4, h4, A', R', by omega, rfl, by go_num, HF⟩
        case measure => simp [intOf]; omega
end RF
end Go.Proofs.YtaodldagmmephaaGreat
