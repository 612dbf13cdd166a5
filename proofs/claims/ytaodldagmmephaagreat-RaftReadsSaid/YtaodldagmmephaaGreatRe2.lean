/- arboretumlaw20.RaftReads returns true, whatever its arguments (printed by gen-reads.py). -/
import Derived.Test.YtaodldagmmephaaGreatRe1
import Derived.Test.YtaodldagmmephaaGreatRg8
namespace Go.Proofs.YtaodldagmmephaaGreat
open Go.RowKit Go.Maps
namespace RF
/-- The law's state as it goes on. -/
structure Rdi (n rb B0 k : Nat) (w : World) (s : RS) (h : Hd) (A R : List Int) (W : World) : Prop where
  cl : h.clean
  rf : Rf rb B0 s h W
  bd : RB ((30 + k : Nat) : Int) (30 + k) s
  rs : Rs n s A R
  lo : w.heap.size ≤ B0
  bel : Below w.heap.size w W
  out : s.out = ot0
section
variable {n rb B0 k : Nat} {w : World} {s : RS} {h : Hd} {A R : List Int} {W : World}
theorem Rdi.below {W' : World} (C : Rdi n rb B0 k w s h A R W) (hb : Below W.heap.size W W') : Rdi n rb B0 k w s h A R W' :=
  ⟨C.cl, C.rf.below hb, C.bd, C.rs, C.lo, C.bel.trans (hb.mono C.bel.size), C.out⟩
theorem Rdi.next {s' : RS} {h' : Hd} {A' R' : List Int} {W' : World} {k' : Nat} (C : Rdi n rb B0 k w s h A R W) (hc : h'.clean) (hr : Rf rb B0 s' h' W') (hp : PS rb h h' W W') (hb : RB ((30 + k' : Nat) : Int) (30 + k') s') (hs : Rs n s' A' R') (ho : s'.out = ot0) : Rdi n rb B0 k' w s' h' A' R' W' :=
  ⟨hc, hr, hb, hs, C.lo, C.bel.trans (hp.1.below C.bel.size (fun i hi => Nat.le_trans C.lo (C.rf.lt hi).1)), ho⟩
theorem rb_up {k k' : Nat} (B : RB ((30 + k : Nat) : Int) (30 + k) s) (h : k ≤ k') (h2 : k' ≤ 1000) : RB ((30 + k' : Nat) : Int) (30 + k') s := B.mono (by omega) (by omega) (by omega) (by omega)
theorem kc_le2 (A : List Int) (x : Int) : ∀ m, kc A x m ≤ m + 1
  | 0 => Nat.le_refl _
  | m + 1 => by
    have ih := kc_le2 A x m
    show (if x ≤ HL.el A (m + 2) then kc A x m + 1 else kc A x m) ≤ m + 2
    split <;> omega
theorem kc_next2 (A : List Int) (x : Int) {j : Nat} (hj : 2 ≤ j) : kc A x (j + 1 - 2) = if x ≤ HL.el A j then kc A x (j - 2) + 1 else kc A x (j - 2) := by
  obtain ⟨m, rfl⟩ : ∃ m, j = m + 2 := ⟨j - 2, by omega⟩
  rw [show m + 2 + 1 - 2 = m + 1 by omega, show m + 2 - 2 = m by omega]
  rfl
end
set_option maxHeartbeats 2000000 in
set_option maxRecDepth 100000 in
theorem reads_walk (n c : Int) (p : Option Addr) (len cap : Nat) (zs : List Int) (w : World) (hrd : RdI w w.heap.size p len zs) :
    Calls Tryz.prog 9 #[.int .i64 n, .int .i64 c, .slice p len cap] w fun e w' => e = .returned (.bool true) ∧ Below w.heap.size w w' := by
  have HAL := Lib.hid (fun W => alive_true W)
  have HRD := Lib.hid hrd
  clear hrd
  go_enter Tryz.func9, Tryz.ntmps9
  go_upto_region 1 with fail
  go_cut [47] (fun s47 wx => ∃ β : Bool, s47 = .bool β ∧ wx = w ∧ Hid (Dec β (¬ (1 ≤ n ∧ n ≤ 5 ∧ 0 ≤ c ∧ c ≤ 10 ∧ (len : Int) ≤ 60))))
  case first =>
    by_cases hz0 : 1 ≤ n
    case neg =>
      have HN : Hid (Dec true (¬ (1 ≤ n ∧ n ≤ 5 ∧ 0 ≤ c ∧ c ≤ 10 ∧ (len : Int) ≤ 60))) := Lib.hid (Dec.t (fun h => hz0 h.1))
      have hy0 : n < 1 := by omega
      have dz0 : decide (n < 1) = true := decide_eq_true hy0
      go_wp2
      go_meet
      case rel => exact ⟨_, rfl, rfl, HN⟩
    have dz0 : decide (n < 1) = false := decide_eq_false (by omega)
    by_cases hz1 : n ≤ 5
    case neg =>
      have HN : Hid (Dec true (¬ (1 ≤ n ∧ n ≤ 5 ∧ 0 ≤ c ∧ c ≤ 10 ∧ (len : Int) ≤ 60))) := Lib.hid (Dec.t (fun h => hz1 h.2.1))
      have hy1 : 5 < n := by omega
      have dz1 : decide (5 < n) = true := decide_eq_true hy1
      go_wp2
      go_meet
      case rel => exact ⟨_, rfl, rfl, HN⟩
    have dz1 : decide (5 < n) = false := decide_eq_false (by omega)
    by_cases hz2 : 0 ≤ c
    case neg =>
      have HN : Hid (Dec true (¬ (1 ≤ n ∧ n ≤ 5 ∧ 0 ≤ c ∧ c ≤ 10 ∧ (len : Int) ≤ 60))) := Lib.hid (Dec.t (fun h => hz2 h.2.2.1))
      have hy2 : c < 0 := by omega
      have dz2 : decide (c < 0) = true := decide_eq_true hy2
      go_wp2
      go_meet
      case rel => exact ⟨_, rfl, rfl, HN⟩
    have dz2 : decide (c < 0) = false := decide_eq_false (by omega)
    by_cases hz3 : c ≤ 10
    case neg =>
      have HN : Hid (Dec true (¬ (1 ≤ n ∧ n ≤ 5 ∧ 0 ≤ c ∧ c ≤ 10 ∧ (len : Int) ≤ 60))) := Lib.hid (Dec.t (fun h => hz3 h.2.2.2.1))
      have hy3 : 10 < c := by omega
      have dz3 : decide (10 < c) = true := decide_eq_true hy3
      go_wp2
      go_meet
      case rel => exact ⟨_, rfl, rfl, HN⟩
    have dz3 : decide (10 < c) = false := decide_eq_false (by omega)
    by_cases hz4 : (len : Int) ≤ 60
    case neg =>
      have HN : Hid (Dec true (¬ (1 ≤ n ∧ n ≤ 5 ∧ 0 ≤ c ∧ c ≤ 10 ∧ (len : Int) ≤ 60))) := Lib.hid (Dec.t (fun h => hz4 h.2.2.2.2))
      have hy4 : 60 < (len : Int) := by omega
      have dz4 : decide (60 < (len : Int)) = true := decide_eq_true hy4
      go_wp2
      go_meet
      case rel => exact ⟨_, rfl, rfl, HN⟩
    have dz4 : decide (60 < (len : Int)) = false := decide_eq_false (by omega)
    have HN : Hid (Dec false (¬ (1 ≤ n ∧ n ≤ 5 ∧ 0 ≤ c ∧ c ≤ 10 ∧ (len : Int) ≤ 60))) := Lib.hid (Dec.f (fun h => h ⟨hz0, hz1, hz2, hz3, hz4⟩))
    go_wp2
    go_meet
    case rel => exact ⟨_, rfl, rfl, HN⟩
  case rest =>
  obtain ⟨β, rfl, hwc, HBE⟩ := hcut
  have hwc := hwc.symm
  subst hwc
  cases β with
  | true =>
    have HAC := Lib.hid (HAL.out w)
    go_wp2_with fail
    with_reducible refine (HAC.out).mono ?_
    rintro e w2 ⟨rfl, hb2⟩
    have HB2 := Lib.hid hb2
    go_wp2
    go_ret
    exact ⟨rfl, HB2.out⟩
  | false =>
  have hbd : 1 ≤ n ∧ n ≤ 5 ∧ 0 ≤ c ∧ c ≤ 10 ∧ (len : Int) ≤ 60 := by
    by_cases h9 : 1 ≤ n ∧ n ≤ 5 ∧ 0 ≤ c ∧ c ≤ 10 ∧ (len : Int) ≤ 60
    · exact h9
    · have := HBE.out.2 h9; cases this
  clear HBE
  obtain ⟨n', rfl⟩ := Int.eq_ofNat_of_zero_le (show 0 ≤ n by omega)
  obtain ⟨c', rfl⟩ := Int.eq_ofNat_of_zero_le hbd.2.2.1
  have h1 : 1 ≤ n' := by omega
  have h5 : n' ≤ 5 := by omega
  have hc10 : c' ≤ 10 := by omega
  have hlen : len ≤ 60 := by omega
  clear hbd
  have HGR := Lib.hid (grown_walk n' 0 h1 h5 (by omega) w)
  have HG := Lib.hid (rs_start n' h1 h5)
  have HGB := Lib.hid (gP_rb n' h1 (by omega) 0 (by omega))
  have HGO := Lib.hid (gP_out n' 0)
  rw [show ((0 : Nat) : Int) = 0 from rfl] at HGR
  generalize gP n' 0 = g at *
  go_wp2_with fail
  with_reducible refine (HGR.out).mono ?_
  rintro e W1 ⟨rb, h, B0, rfl, hcl, hB0, hr1, hb1⟩
  have HC1 : Hid (Rdi n' rb B0 0 w g h zero6 zero6 W1) := Lib.hid ⟨hcl, hr1, HGB.out, HG.out.1, hB0, hb1, HGO.out⟩
  clear hcl hB0 hr1 hb1 HGR
  have HAK := Lib.hid (rf_ask HC1.out.rf HC1.out.bd HC1.out.cl HC1.out.out)
  have HE1 : Hid ((n' = 1 → g.askE = 0) ∧ (n' ≠ 1 → g.askE = 22)) := Lib.hid ⟨fun e => HG.out.1.asks (HG.out.2.2.1 e), fun e => HG.out.1.busy (HG.out.2.2.2 e)⟩
  obtain ⟨bs, hbs⟩ : ∃ bs : Int, bs = if n' = 1 then 1 else 0 := ⟨_, rfl⟩
  have HBS := Lib.hid hbs
  clear hbs
  have HZ1 : Hid (Rs n' (if g.askE = 0 then g.ask0 else g).fin zero6 zero6 ∧ (if g.askE = 0 then g.ask0 else g).fin.round = bs) := Lib.hid (by
    by_cases e : n' = 1
    · rw [if_pos (HE1.out.1 e)]
      rcases HG.out.1.ask with ⟨a, b, _⟩ | h9
      · refine ⟨a, ?_⟩
        rw [b, HG.out.2.1, HBS.out, if_pos e]
        rfl
      · rw [HG.out.2.1] at h9; omega
    · rw [if_neg (by rw [HE1.out.2 e]; omega)]
      exact ⟨HG.out.1.fin, by rw [HBS.out, if_neg e]; exact HG.out.2.1⟩)
  have HZB : Hid (RB ((30 + 0 : Nat) : Int) (30 + 0) (if g.askE = 0 then g.ask0 else g).fin) := Lib.hid (by
    split
    · exact HC1.out.bd.ask0.fin
    · exact HC1.out.bd.fin)
  go_wp2_with fail
  with_reducible refine (HAK.out).mono ?_
  rintro e W2 ⟨v2, rfl, hA⟩
  obtain ⟨p1, n1, k1, p2, n2, k2, hv2⟩ := hA.form
  injection hv2 with hv2
  subst hv2
  obtain ⟨_, h2, _, hcl2, hr2, hp2, _⟩ := hA
  have HC2 : Hid (Rdi n' rb B0 0 w (if g.askE = 0 then g.ask0 else g).fin h2 zero6 zero6 W2) := Lib.hid (HC1.out.next hcl2 hr2 hp2 HZB.out HZ1.out.1 rfl)
  have HZR := Lib.hid HZ1.out.2
  clear hcl2 hr2 hp2 HAK HC1 HZ1 HZB
  (try clear W1)
  generalize (if g.askE = 0 then g.ask0 else g).out.hd = ohd at *
  generalize (if g.askE = 0 then g.ask0 else g).out.fr = ofr at *
  generalize (if g.askE = 0 then g.ask0 else g).fin = z at *
  generalize (if g.askE = 0 then g.commit else 0) = oi at *
  generalize (if g.askE = 0 then min (g.round + 1) 4611686018427387904 else 0) = orr at *
  generalize g.askE = ec at *
  clear HG HGB HGO
  (try clear g)
  go_upto_region 7 with fail
  have hb3 : Below W2.heap.size W2 (W2.alloc (.cells #[.slice p1 n1 k1, .bool ohd, .int .i64 ofr, .slice p2 n2 k2] 37)) := (Below.refl _ W2).alloc (Nat.le_refl _) _
  have HC3 := Lib.hid (HC2.out.below hb3)
  clear hb3 HC2
  generalize W2.alloc (.cells #[.slice p1 n1 k1, .bool ohd, .int .i64 ofr, .slice p2 n2 k2] 37) = W3 at *
  generalize W2.heap.size = b11 at *
  go_cut [75] (fun s75 wx => s75 = .bool false ∧ wx = W3)
  case first =>
    by_cases e : n' = 1
    · have he := HE1.out.1 e
      subst he
      have d1 : ((n' : Int) == 1) = true := by simp [e]
      clear HE1 HBS HZR e
      go_wp2
      go_meet
      case rel => exact ⟨rfl, rfl⟩
    · have he := HE1.out.2 e
      subst he
      have hn1 : ¬ (n' : Int) = 1 := by omega
      have d1 : ((n' : Int) == 1) = false := by simp [hn1]
      clear HE1 HBS HZR e
      go_wp2
      go_meet
      case rel => exact ⟨rfl, rfl⟩
  case rest =>
  obtain ⟨rfl, hwd⟩ := hcut
  have hwd := hwd.symm
  subst hwd
  clear HE1
  have hbs0 : 0 ≤ bs ∧ bs ≤ 1 := by
    have h := HBS.out
    split at h <;> omega
  go_wp2
  go_loopw [13] (fun iv wr => ∃ (i : Nat) (s : RS) (h : Hd) (A R : List Int), 2 ≤ i ∧ i ≤ max (n' + 1) 2 ∧ iv = .int .i64 (i : Int) ∧ Hid (Rdi n' rb B0 (i - 2) w s h A R wr ∧ s.round = bs ∧ (∀ j, 2 ≤ j → j < i → 1 ≤ HL.el A j) ∧ (∀ j, HL.el R j = 0))) (fun iv _ => n' + 2 - (intOf iv).toNat)
  case atStart => exact ⟨2, z, h2, zero6, zero6, Nat.le_refl _, by omega, rfl, Lib.hid ⟨HC3.out, HZR.out, (fun j h3 h4 => by omega), zero6_el⟩⟩
  case round =>
    clear HC3 HZR
    obtain ⟨i, s, h3, A, R, hi2, hin, rfl, HR⟩ := hrel
    by_cases hlt : i ≤ n'
    case pos =>
      have hltI : (i : Int) ≤ (n' : Int) := by omega
      have hwi : IntKind.i64.wrap ((i : Int) + 1) = (i : Int) + 1 := IntWalk.i64_in _ (by omega)
      have HST := Lib.hid (rf_stepS 4 (i : Int) 1 1 0 true HR.out.1.rf HR.out.1.bd (by omega) (by omega) HR.out.1.rs.vt HR.out.1.cl HR.out.1.out (by omega) (by omega))
      have HSP := Lib.hid (HR.out.1.rs.step i hi2 (by omega) 0 (by omega))
      have HBS2 : Hid (RB ((30 + (i + 1 - 2) : Nat) : Int) (30 + (i + 1 - 2)) (s.stepF (smg 4 (i : Int) 1 1 0 true))) := Lib.hid (by
        have h := (HR.out.1.bd.stepS 4 (i : Int) 1 1 0 true (by omega) (by omega)).fin
        rw [show ((30 + (i - 2) : Nat) : Int) + 1 = ((30 + (i + 1 - 2) : Nat) : Int) by omega, show 30 + (i - 2) + 1 = 30 + (i + 1 - 2) by omega] at h
        exact h)
      go_wp2_with fail
      with_reducible refine (HST.out).mono ?_
      rintro e W4 ⟨v4, h4, rfl, hcl4, hr4, hp4, _⟩
      have HF : Hid (Rdi n' rb B0 (i + 1 - 2) w (s.stepF (smg 4 (i : Int) 1 1 0 true)) h4 (if i ≤ n' then upd A i 1 else A) (if i ≤ n' ∧ 0 ≤ s.round then upd R i 0 else R) W4 ∧ (s.stepF (smg 4 (i : Int) 1 1 0 true)).round = bs ∧ (∀ j, 2 ≤ j → j < i + 1 → 1 ≤ HL.el (if i ≤ n' then upd A i 1 else A) j) ∧ (∀ j, HL.el (if i ≤ n' ∧ 0 ≤ s.round then upd R i 0 else R) j = 0)) := Lib.hid (by
        refine ⟨HR.out.1.next hcl4 hr4 hp4 HBS2.out HSP.out.1 rfl, HSP.out.2.1.trans HR.out.2.1, fun j h5 h6 => ?_, fun j => ?_⟩
        · rw [if_pos hlt, el_upd HR.out.1.rs.H.len.1 (by omega)]
          by_cases e : j = i
          · rw [if_pos e]; omega
          · rw [if_neg e]; exact HR.out.2.2.1 j h5 (by omega)
        · have h0 := HR.out.2.2.2
          split
          · rw [el_upd HR.out.1.rs.H.len.2 (by omega)]
            split
            · rw [h0 i]; rfl
            · exact h0 j
          · exact h0 j)
      clear hcl4 hr4 hp4 HST HSP HBS2 HR
      go_wp2
      go_roundw
      case rel => exact ⟨i + 1, _, _, _, _, by omega, by omega, by go_num, HF⟩
      case measure => simp [intOf]; omega
    case neg =>
    have hltI : (n' : Int) < (i : Int) := by omega
    have HC4 : Hid (Rdi n' rb B0 (i - 2) w s h3 A R wr ∧ s.round = bs ∧ s.commit = 1 ∧ (∀ j, HL.el R j = 0)) := Lib.hid ⟨HR.out.1, HR.out.2.1, HR.out.1.rs.one (fun j h6 h7 => HR.out.2.2.1 j h6 (by omega)), HR.out.2.2.2⟩
    clear HR
    go_wp2
    go_loopw [14, 15] (fun lv iv wr => ∃ (k : Nat) (l : Int) (s : RS) (h : Hd), k ≤ c' ∧ lv = .int .i64 l ∧ iv = .int .i64 (k : Int) ∧ Hid (Rdi n' rb B0 (i - 2) w s h A R wr ∧ s.round = bs + (k : Int) ∧ s.commit = 1 ∧ 0 ≤ l ∧ l ≤ s.round ∧ (n' ≠ 1 → l = s.round))) (fun _ iv _ => c' - (intOf iv).toNat)
    case atStart => exact ⟨0, 0, s, h3, Nat.zero_le _, rfl, rfl, Lib.hid ⟨HC4.out.1, by rw [HC4.out.2.1]; omega, HC4.out.2.2.1, by omega, by rw [HC4.out.2.1]; exact hbs0.1, fun e => by rw [HC4.out.2.1, HBS.out, if_neg e]⟩⟩
    case round =>
      obtain ⟨k, l, s5, h5', hk, rfl, rfl, HR⟩ := hrel
      by_cases hlk : k < c'
      case pos =>
        have hltI : (k : Int) < (c' : Int) := by omega
        have hwk : IntKind.i64.wrap ((k : Int) + 1) = (k : Int) + 1 := IntWalk.i64_in _ (by omega)
        have HAK := Lib.hid (rf_ask HR.out.1.rf HR.out.1.bd HR.out.1.cl HR.out.1.out)
        have hask := HR.out.1.rs.asks HR.out.2.2.1
        have HRA : Hid (Rs n' s5.ask0.fin A R ∧ s5.ask0.fin.round = bs + (k : Int) + 1 ∧ s5.ask0.fin.commit = s5.commit) := Lib.hid (by
          rcases HR.out.1.rs.ask with ⟨a, b, d⟩ | h9
          · refine ⟨a, ?_, d⟩
            rw [b, HR.out.2.1]
            omega
          · rw [HR.out.2.1] at h9; omega)
        have hround : min (s5.round + 1) 4611686018427387904 = bs + (k : Int) + 1 := by rw [HR.out.2.1]; omega
        unfold AskAns at HAK
        simp only [hask, if_true] at HAK
        rw [hround, HR.out.2.2.1] at HAK
        clear hask hround
        go_wp2_with fail
        with_reducible refine (HAK.out).mono ?_
        rintro e W5 ⟨v5, rfl, hA⟩
        obtain ⟨p1', n1', k1', p2', n2', k2', hv5⟩ := hA.form
        injection hv5 with hv5
        subst hv5
        obtain ⟨_, h6, _, hcl6, hr6, hp6, _⟩ := hA
        have HC6 := Lib.hid (HR.out.1.next hcl6 hr6 hp6 HR.out.1.bd.ask0.fin HRA.out.1 rfl)
        have hlr := HR.out.2.2.2.2.1
        rw [HR.out.2.1] at hlr
        have HL0 := Lib.hid HR.out.2.2.2.1
        have HZC : Hid (s5.ask0.fin.round = bs + (k : Int) + 1 ∧ s5.ask0.fin.commit = 1) := Lib.hid ⟨HRA.out.2.1, HRA.out.2.2.trans HR.out.2.2.1⟩
        clear hcl6 hr6 hp6 HAK HRA HR
        generalize s5.ask0.out.hd = ohd5 at *
        generalize s5.ask0.out.fr = ofr5 at *
        generalize s5.ask0.fin = s6 at *
        go_upto_region 18 with fail
        have hb7 : Below W5.heap.size W5 (W5.alloc (.cells #[.slice p1' n1' k1', .bool ohd5, .int .i64 ofr5, .slice p2' n2' k2'] 37)) := (Below.refl _ W5).alloc (Nat.le_refl _) _
        have HC7 := Lib.hid (HC6.out.below hb7)
        clear hb7 HC6
        generalize W5.alloc (.cells #[.slice p1' n1' k1', .bool ohd5, .int .i64 ofr5, .slice p2' n2' k2'] 37) = W7 at *
        have hgt : l < bs + (k : Int) + 1 := by omega
        have HF : Hid (Rdi n' rb B0 (i - 2) w s6 h6 A R W7 ∧ s6.round = bs + ((k + 1 : Nat) : Int) ∧ s6.commit = 1 ∧ 0 ≤ bs + (k : Int) + 1 ∧ bs + (k : Int) + 1 ≤ s6.round ∧ (n' ≠ 1 → bs + (k : Int) + 1 = s6.round)) := Lib.hid ⟨HC7.out, by rw [HZC.out.1]; omega, HZC.out.2, by omega, by rw [HZC.out.1]; exact Int.le_refl _, fun _ => HZC.out.1.symm⟩
        clear hlr
        go_wp2
        go_roundw
        case rel => exact ⟨k + 1, _, s6, h6, by omega, rfl, by go_num, HF⟩
        case measure => simp [intOf]; omega
      case neg =>
      have hltI : (c' : Int) ≤ (k : Int) := by omega
      have hl0 := HR.out.2.2.2.1
      have hlR := HR.out.2.2.2.2.1
      have hR20 : s5.round ≤ 20 := by rw [HR.out.2.1]; omega
      obtain ⟨l', rfl⟩ := Int.eq_ofNat_of_zero_le hl0
      go_upto_region 22 with fail
      have X0 := CBox.fresh wr (icells zero6) 53
      have hb8 : Below wr.heap.size wr (wr.alloc (.cells (icells zero6).toArray 53)) := (Below.refl _ wr).alloc (Nat.le_refl _) _
      have HC8 : Hid (Rdi n' rb B0 (i - 2) w s5 h5' A R (wr.alloc (.cells (icells zero6).toArray 53)) ∧ CBox wr.heap.size (icells zero6) (wr.alloc (.cells (icells zero6).toArray 53)) ∧ ¬ Fo rb h5' wr.heap.size ∧ w.heap.size ≤ wr.heap.size) := Lib.hid ⟨HR.out.1.below hb8, X0, fun e => by have := (HR.out.1.rf.lt e).2; omega, HR.out.1.bel.size⟩
      have HR0 := Lib.hid (And.intro HC4.out.2.2.2 HR.out.2.2.2.2.2)
      unfold icells zero6 at HC8
      dsimp only [List.toArray, List.map] at HC8
      clear X0 hb8 HR HC4
      generalize wr.alloc (.cells #[.int .i64 0, .int .i64 0, .int .i64 0, .int .i64 0, .int .i64 0, .int .i64 0] 53) = W8 at *
      have HC9 : Hid (Rdi n' rb B0 (i - 2) w s5 h5' A R W8 ∧ CBox wr.heap.size (icells zero6) W8 ∧ ¬ Fo rb h5' wr.heap.size ∧ w.heap.size ≤ wr.heap.size) := Lib.hid HC8.out
      clear HC8
      generalize wr.heap.size = b20 at *
      obtain ⟨rr, hrr⟩ : ∃ rr, rr = s5.round := ⟨_, rfl⟩
      have HRR := Lib.hid hrr
      rw [← hrr] at hlR hR20 HR0
      clear hrr
      go_wp2
      go_loopw [21] (fun iv wr => ∃ (x : Nat) (s : RS) (h : Hd) (A R AT : List Int), x ≤ len ∧ iv = .int .i64 (x : Int) ∧ Hid (Rdi n' rb B0 (i - 2 + x) w s h A R wr ∧ s.round = rr ∧ CBox b20 (icells AT) wr ∧ ¬ Fo rb h b20 ∧ AT.length = 6 ∧ (∀ j, 0 ≤ HL.el AT j ∧ HL.el AT j ≤ (l' : Int)) ∧ (n' ≠ 1 → ∀ j, HL.el AT j = HL.el R j))) (fun iv _ => len - (intOf iv).toNat)
      case atStart => exact ⟨0, s5, h5', A, R, zero6, Nat.zero_le _, rfl, Lib.hid ⟨HC9.out.1, HRR.out.symm, HC9.out.2.1, HC9.out.2.2.1, rfl, (fun j => by rw [zero6_el]; omega), fun _ j => by rw [zero6_el, HR0.out.1 j]⟩⟩
      case round =>
        obtain ⟨x, s, h', A, R, AT, hx, rfl, HR⟩ := hrel
        have HB20 := Lib.hid HC9.out.2.2.2
        by_cases hlt : x < len
        case neg =>
          have hltI : ¬ ((x : Int) < (len : Int)) := by omega
          have HAC := Lib.hid (HAL.out wr)
          go_wp2_with fail
          with_reducible refine (HAC.out).mono ?_
          rintro e W4 ⟨rfl, hb4⟩
          have HC4 := Lib.hid (HR.out.1.below hb4)
          clear hb4
          by_cases hn1 : 1 < n'
          · have d1 : decide (1 < (n' : Int)) = true := decide_eq_true (by omega)
            have hn2 : (1 : Int) < (n' : Int) := by omega
            have HBF := Lib.hid HC4.out.bel
            go_wp2
            go_ret
            exact ⟨rfl, HBF.out⟩
          · have hn2 : (n' : Int) ≤ 1 := by omega
            have HAK := Lib.hid (rf_acked2 HC4.out.rf HC4.out.bd HC4.out.rs.L.role)
            have hak := HC4.out.rs.acked
            have hlo : s.ackedV = s.round := by
              have h9 : n' = 1 := by omega
              have h10 := HC4.out.rs
              rw [h9] at h10
              exact h10.lone
            rw [hak, hlo] at HAK
            clear hak hlo
            go_wp2_with fail
            with_reducible refine (HAK.out).mono ?_
            rintro e W5 ⟨rfl, h5'', hr5, hp5, _⟩
            have HR5 := Lib.hid hr5
            have HB5 : Hid (Below w.heap.size w W5) := Lib.hid (HC4.out.bel.trans (hp5.1.below HC4.out.bel.size (fun i hi => Nat.le_trans HC4.out.lo (HC4.out.rf.lt hi).1)))
            have HSV := Lib.hid (rf_state hr5 HC4.out.bd)
            clear hr5 hp5 HAK
            go_wp2_with fail
            with_reducible refine (HSV.out).mono ?_
            rintro e W9 ⟨v9, rfl, ho9, hb9⟩
            obtain ⟨p9, c9, hv9⟩ := owns_slice ho9
            subst hv9
            have HBF := Lib.hid (HB5.out.trans (hb9.mono HB5.out.size))
            clear ho9 hb9 HSV HC4 HR
            unfold stateV
            generalize s = z at *
            have hfd : (Instr.field 41 (.agg #[.int .i64 z.id, .int .i64 z.role, .int .i64 z.lead, .int .i64 z.term, .int .i64 z.vote, .int .i64 z.commit, .int .i64 z.b, .int .i64 (lastS z.b z.t z.l).1, .int .i64 (lastS z.b z.t z.l).2, .int .i64 z.elapsed, .int .i64 z.timeout, .int .i64 z.round, .slice p9 z.all.length c9]) 11).run Tryz.prog W9 = .ok (.int .i64 z.round) W9 := by kernel_rfl
            go_wp2_with fail
            go_ret
            exact ⟨rfl, HBF.out⟩
        case pos =>
        have hltI : (x : Int) < (len : Int) := by omega
        obtain ⟨pb, po, hpe, hpb, hpc⟩ := HRD.out.2 (by omega)
        subst hpe
        have hcell : wr.cell? ⟨pb, po + x, none⟩ = some (.int .i64 (HL.el zs x)) := (HR.out.1.bel.cell (p := ⟨pb, po + x, none⟩) hpb).trans (hpc x (by omega))
        generalize HL.el zs x = a at *
        obtain ⟨f, hf⟩ : ∃ f : Nat, f = (a % 4).toNat + 2 := ⟨_, rfl⟩
        obtain ⟨y, hy⟩ : ∃ y : Nat, y = (a / 4 % 16).toNat := ⟨_, rfl⟩
        have hf2 : 2 ≤ f := by omega
        have hf5 : f ≤ 5 := by omega
        have hy15 : y ≤ 15 := by omega
        have hb3 : bits BinOp.and IntKind.i64 a 3 = (f : Int) - 2 := by rw [and3]; omega
        have hb31 : bits BinOp.and IntKind.i64 (a / 4) 15 = (y : Int) := by rw [and15]; omega
        have hw2 : IntKind.i64.wrap (2 + ((f : Int) - 2)) = (f : Int) := by rw [show (2 : Int) + ((f : Int) - 2) = (f : Int) by omega]; exact IntWalk.i64_in _ (by omega)
        clear hf hy
        have HST := Lib.hid (rf_stepS 4 (f : Int) 1 1 (y : Int) true HR.out.1.rf HR.out.1.bd (by omega) (by omega) HR.out.1.rs.vt HR.out.1.cl HR.out.1.out (by omega) (by omega))
        have HSP := Lib.hid (HR.out.1.rs.step f hf2 hf5 (y : Int) (by omega))
        have HBS2 : Hid (RB ((30 + (i - 2 + (x + 1)) : Nat) : Int) (30 + (i - 2 + (x + 1))) (s.stepF (smg 4 (f : Int) 1 1 (y : Int) true))) := Lib.hid (by
          have h := (HR.out.1.bd.stepS 4 (f : Int) 1 1 (y : Int) true (by omega) (by omega)).fin
          rw [show ((30 + (i - 2 + x) : Nat) : Int) + 1 = ((30 + (i - 2 + (x + 1)) : Nat) : Int) by omega, show 30 + (i - 2 + x) + 1 = 30 + (i - 2 + (x + 1)) by omega] at h
          exact h)
        go_wp2_with fail
        with_reducible refine (HST.out).mono ?_
        rintro e W4 ⟨v4, h4, rfl, hcl4, hr4, hp4, _⟩
        obtain ⟨A', hA'⟩ : ∃ A', A' = (if f ≤ n' then upd A f 1 else A) := ⟨_, rfl⟩
        obtain ⟨R', hR'⟩ : ∃ R', R' = (if f ≤ n' ∧ (y : Int) ≤ s.round then upd R f (y : Int) else R) := ⟨_, rfl⟩
        rw [← hA', ← hR'] at HSP
        have HC5 : Hid (Rdi n' rb B0 (i - 2 + (x + 1)) w (s.stepF (smg 4 (f : Int) 1 1 (y : Int) true)) h4 A' R' W4) := Lib.hid (HR.out.1.next hcl4 hr4 hp4 HBS2.out HSP.out.1 rfl)
        have HX5 := Lib.hid (HR.out.2.2.1.keep hp4.1 HR.out.2.2.2.1)
        have HNF : Hid (¬ Fo rb h4 b20) := Lib.hid (hp4.off HR.out.2.2.1.2.2 HR.out.2.2.2.1)
        have HS5 : Hid ((s.stepF (smg 4 (f : Int) 1 1 (y : Int) true)).round = rr) := Lib.hid (HSP.out.2.1.trans HR.out.2.1)
        have hlen6 := HR.out.2.2.2.2.1
        have HAT := Lib.hid (And.intro HR.out.2.2.2.2.2.1 HR.out.2.2.2.2.2.2)
        have HR6 := Lib.hid HR.out.1.rs.H.len.2
        have HRE : Hid (s.round = rr) := Lib.hid HR.out.2.1
        clear hcl4 hr4 hp4 HST HBS2 HSP HR hA' hcell hb3 hb31 hw2
        rw [HRE.out] at hR'
        generalize s.stepF (smg 4 (f : Int) 1 1 (y : Int) true) = s4 at *
        obtain ⟨AT', hAT'⟩ : ∃ AT', AT' = (if f ≤ n' ∧ (y : Int) ≤ (l' : Int) then upd AT f (y : Int) else AT) := ⟨_, rfl⟩
        have HT2 : Hid (AT'.length = 6 ∧ (∀ j, 0 ≤ HL.el AT' j ∧ HL.el AT' j ≤ (l' : Int)) ∧ (n' ≠ 1 → ∀ j, HL.el AT' j = HL.el R' j)) := Lib.hid (by
          refine ⟨?_, fun j => ?_, fun e j => ?_⟩
          · rw [hAT']; split
            · unfold upd; rw [List.length_set]; exact hlen6
            · exact hlen6
          · have h0 := HAT.out.1 j
            have h1 := HAT.out.1 f
            rw [hAT']
            split
            · rw [el_upd hlen6 hf5]
              split <;> omega
            · exact h0
          · have h0 := HAT.out.2 e
            rw [hAT', hR', HR0.out.2 e]
            split
            · rw [el_upd hlen6 hf5, el_upd HR6.out hf5, h0 j, h0 f]
            · exact h0 j)
        go_upto_region 28 with fail
        go_cut [137] (fun s137 wx => ∃ β : Bool, s137 = .bool β ∧ wx = W4 ∧ Hid (Dec β (f ≤ n' ∧ (y : Int) ≤ (l' : Int))))
        case first =>
          by_cases hfn : f ≤ n'
          · have d1 : decide ((f : Int) ≤ (n' : Int)) = true := decide_eq_true (by omega)
            by_cases hyl : y ≤ l'
            · have HD : Hid (Dec true (f ≤ n' ∧ (y : Int) ≤ (l' : Int))) := Lib.hid (Dec.t ⟨hfn, by omega⟩)
              go_wp2
              go_meet
              case rel => exact ⟨_, rfl, rfl, HD⟩
            · have hyl2 : l' < y := by omega
              have HD : Hid (Dec false (f ≤ n' ∧ (y : Int) ≤ (l' : Int))) := Lib.hid (Dec.f (fun h => hyl (by omega)))
              go_wp2
              go_meet
              case rel => exact ⟨_, rfl, rfl, HD⟩
          · have hfn2 : n' < f := by omega
            have HD : Hid (Dec false (f ≤ n' ∧ (y : Int) ≤ (l' : Int))) := Lib.hid (Dec.f (fun h => hfn h.1))
            go_wp2
            go_meet
            case rel => exact ⟨_, rfl, rfl, HD⟩
        case rest =>
        obtain ⟨β, rfl, hwc, HD⟩ := hcut
        have hwc := hwc.symm
        subst hwc
        go_upto_if 137 with fail
        go_cut [] (fun wx => Hid (CBox b20 (icells AT') wx ∧ Rdi n' rb B0 (i - 2 + (x + 1)) w s4 h4 A' R' wx))
        case first =>
          cases β with
          | true =>
            have hfy := HD.out.1 rfl
            have hAe : AT' = upd AT f (y : Int) := by rw [hAT', if_pos hfy]
            have cf := HX5.out.1 f _ (icells_at (by rw [hlen6]; omega))
            have ff := HX5.out.2.1 f (by rw [icells_len, hlen6]; omega)
            have hset := HX5.out.set f (.int .i64 (max (HL.el AT f) (y : Int))) (by rw [icells_len, hlen6]; omega)
            rw [icells_set] at hset
            have hF9 : Fr (fun k => k = b20) W4 (W4.setCell ⟨b20, f, none⟩ (.int .i64 (max (HL.el AT f) (y : Int)))) := (Fr.refl (fun k => k = b20) W4).setCell (p := ⟨b20, f, none⟩) (fun _ => rfl) _
            have HF : Hid (CBox b20 (icells AT') (W4.setCell ⟨b20, f, none⟩ (.int .i64 (max (HL.el AT f) (y : Int)))) ∧ Rdi n' rb B0 (i - 2 + (x + 1)) w s4 h4 A' R' (W4.setCell ⟨b20, f, none⟩ (.int .i64 (max (HL.el AT f) (y : Int))))) := Lib.hid ⟨by rw [hAe]; exact hset, ⟨HC5.out.cl, HC5.out.rf.keep hF9 (fun k hk e => HNF.out (by rw [← e]; exact hk)), HC5.out.bd, HC5.out.rs, HC5.out.lo, HC5.out.bel.setCell (p := ⟨b20, f, none⟩) HB20.out _, HC5.out.out⟩⟩
            have hf6 : f < 6 := by omega
            clear hset hF9 hAe hAT' hfy HD hR'
            generalize HL.el AT f = m0 at *
            go_wp2
            go_meet
            case rel => exact HF
          | false =>
            have HF : Hid (CBox b20 (icells AT') W4 ∧ Rdi n' rb B0 (i - 2 + (x + 1)) w s4 h4 A' R' W4) := Lib.hid ⟨by rw [hAT', if_neg (fun h => by have := HD.out.2 h; cases this)]; exact HX5.out, HC5.out⟩
            clear hAT' HD hR'
            go_wp2
            go_meet
            case rel => exact HF
        case rest =>
        have HC7 := Lib.hid hcut.out.2
        have HX7 := Lib.hid hcut.out.1
        clear hcut HC5 HX5 hAT' hR' HD
        (try clear W4)
        generalize wc = W7 at *
        obtain ⟨V, hV⟩ : ∃ V, V = s4.ackedV := ⟨_, rfl⟩
        have HVV := Lib.hid hV
        clear hV
        have HF4 : Hid ((∀ z : Int, z ≤ (l' : Int) → (z ≤ V ↔ n' / 2 < kc AT' z (n' - 1))) ∧ 0 ≤ V ∧ (n' ≠ 1 → V ≤ (l' : Int))) := Lib.hid (by
          by_cases e : n' = 1
          · have h9 : V = s4.round := by
              rw [HVV.out]
              have h10 := HC7.out.rs
              rw [e] at h10
              exact h10.lone
            rw [HS5.out] at h9
            refine ⟨fun z hz => ⟨fun _ => by rw [e]; show 1 / 2 < 1; omega, fun _ => by omega⟩, by omega, fun h => absurd e h⟩
          · have hlr := HR0.out.2 e
            obtain ⟨a1, a2, a3⟩ := HC7.out.rs.ackV AT' (fun j _ _ => HT2.out.2.2 e j) (fun j => by have := HT2.out.2.1 j; rw [HS5.out, ← hlr]; exact this)
            rw [HS5.out, ← hlr] at a1 a2
            rw [← HVV.out] at a1 a2 a3
            exact ⟨a1, a3, fun _ => a2⟩)
        have hV0 := HF4.out.2.1
        have hdv : (n' : Int) / 2 = ((n' / 2 : Nat) : Int) := by omega
        have HFK := Lib.hid HF4.out.1
        generalize n' / 2 = q at hdv HFK
        have hlen7 := HT2.out.1
        go_wp2
        go_loopw [25, 26] (fun bv xv wx => ∃ X : Nat, X ≤ l' ∧ bv = .int .i64 (min (X : Int) V) ∧ xv = .int .i64 ((X : Int) + 1) ∧ wx = W7) (fun _ xv _ => l' + 1 - (intOf xv).toNat)
        case atStart => exact ⟨0, Nat.zero_le _, by rw [show min ((0 : Nat) : Int) V = 0 by omega], rfl, rfl⟩
        case round =>
          obtain ⟨X, hX, rfl, rfl, hwx⟩ := hrel
          have hwx := hwx.symm
          subst hwx
          by_cases hXl : X < l'
          case pos =>
            have hltX : (X : Int) + 1 ≤ (l' : Int) := by omega
            go_wp2
            go_loopw [27, 28] (fun kv jv wx => ∃ j : Nat, 2 ≤ j ∧ j ≤ n' + 1 ∧ kv = .int .i64 (kc AT' ((X : Int) + 1) (j - 2) : Nat) ∧ jv = .int .i64 (j : Int) ∧ wx = W7) (fun _ jv _ => n' + 2 - (intOf jv).toNat)
            case atStart => exact ⟨2, Nat.le_refl _, by omega, rfl, rfl, rfl⟩
            case round =>
              obtain ⟨j, hj2, hjn, rfl, rfl, hwx⟩ := hrel
              have hwx := hwx.symm
              subst hwx
              by_cases hjl : j ≤ n'
              case pos =>
                have hjI : (j : Int) ≤ (n' : Int) := by omega
                have hj6 : j < 6 := by omega
                have cj := HX7.out.1 j _ (icells_at (by rw [hlen7]; omega))
                have hkb := kc_le2 AT' ((X : Int) + 1) (j - 2)
                have hks := kc_next2 AT' ((X : Int) + 1) hj2
                have hwj : IntKind.i64.wrap ((j : Int) + 1) = (j : Int) + 1 := IntWalk.i64_in _ (by omega)
                have HKS := Lib.hid hks
                clear hks
                generalize kc AT' ((X : Int) + 1) (j - 2) = k9 at *
                generalize HL.el AT' j = e at *
                have hwk : IntKind.i64.wrap ((k9 : Int) + 1) = (k9 : Int) + 1 := IntWalk.i64_in _ (by omega)
                by_cases hxe : (X : Int) + 1 ≤ e
                · have HE : Hid (kc AT' ((X : Int) + 1) (j + 1 - 2) = k9 + 1) := Lib.hid (by rw [HKS.out, if_pos hxe])
                  clear HKS
                  go_wp2
                  go_roundw
                  case rel => exact ⟨j + 1, by omega, by omega, by rw [HE.out]; go_num, by go_num, trivial⟩
                  case measure => simp [intOf]; omega
                · have HE : Hid (kc AT' ((X : Int) + 1) (j + 1 - 2) = k9) := Lib.hid (by rw [HKS.out, if_neg hxe])
                  have hx2 : e < (X : Int) + 1 := by omega
                  clear HKS
                  go_wp2
                  go_roundw
                  case rel => exact ⟨j + 1, by omega, by omega, by rw [HE.out], by go_num, trivial⟩
                  case measure => simp [intOf]; omega
              case neg =>
                have hjI : (n' : Int) < (j : Int) := by omega
                obtain rfl : j = n' + 1 := by omega
                have HQ := Lib.hid (HFK.out ((X : Int) + 1) hltX)
                rw [show n' - 1 = n' + 1 - 2 by omega] at HQ
                have hwX : IntKind.i64.wrap ((X : Int) + 1 + 1) = (X : Int) + 1 + 1 := IntWalk.i64_in _ (by omega)
                generalize kc AT' ((X : Int) + 1) (n' + 1 - 2) = k9 at *
                by_cases hq : q < k9
                · have hqI : (n' : Int) / 2 < (k9 : Int) := by omega
                  have hxc : (X : Int) + 1 ≤ V := HQ.out.2 hq
                  have HE : Hid (min ((X + 1 : Nat) : Int) V = (X : Int) + 1) := Lib.hid (by omega)
                  clear hxc HQ hdv hq
                  go_wp2
                  go_roundw
                  case rel => exact ⟨X + 1, by omega, by rw [HE.out], by go_num, trivial⟩
                  case measure => simp [intOf]; omega
                · have hqI : (k9 : Int) ≤ (n' : Int) / 2 := by omega
                  have hxc : ¬ (X : Int) + 1 ≤ V := fun h => hq (HQ.out.1 h)
                  have HE : Hid (min ((X + 1 : Nat) : Int) V = min (X : Int) V) := Lib.hid (by omega)
                  clear hxc HQ hdv hq
                  go_wp2
                  go_roundw
                  case rel => exact ⟨X + 1, by omega, by rw [HE.out], by go_num, trivial⟩
                  case measure => simp [intOf]; omega
          case neg =>
            have hltX : (l' : Int) < (X : Int) + 1 := by omega
            have hXe : X = l' := by omega
            have HAK := Lib.hid (rf_acked2 HC7.out.rf HC7.out.bd HC7.out.rs.L.role)
            rw [HC7.out.rs.acked, ← HVV.out] at HAK
            have hwi : IntKind.i64.wrap ((x : Int) + 1) = (x : Int) + 1 := IntWalk.i64_in _ (by omega)
            have HVM : Hid (n' ≠ 1 → min (X : Int) V = V) := Lib.hid (fun e => by have := HF4.out.2.2 e; omega)
            generalize min (X : Int) V = bst at *
            go_wp2_with fail
            with_reducible refine (HAK.out).mono ?_
            rintro e W10 ⟨rfl, h10, hr10, hp10, hx10⟩
            have HF : Hid (Rdi n' rb B0 (i - 2 + (x + 1)) w s4 h10 A' R' W10 ∧ s4.round = rr ∧ CBox b20 (icells AT') W10 ∧ ¬ Fo rb h10 b20 ∧ AT'.length = 6 ∧ (∀ j, 0 ≤ HL.el AT' j ∧ HL.el AT' j ≤ (l' : Int)) ∧ (n' ≠ 1 → ∀ j, HL.el AT' j = HL.el R' j)) := Lib.hid ⟨⟨hx10.clean HC7.out.cl, hr10, HC7.out.bd, HC7.out.rs, HC7.out.lo, HC7.out.bel.trans (hp10.1.below HC7.out.bel.size (fun i hi => Nat.le_trans HC7.out.lo (HC7.out.rf.lt hi).1)), HC7.out.out⟩, HS5.out, HX7.out.keep hp10.1 HNF.out, hp10.off HX7.out.2.2 HNF.out, HT2.out⟩
            clear hr10 hp10 hx10 HAK HFK hdv
            by_cases e1 : n' = 1
            · have hn1 : (n' : Int) ≤ 1 := by omega
              clear e1 HVM
              by_cases hvb : V = bst
              · subst hvb
                go_wp2
                go_roundw
                case rel => exact ⟨x + 1, s4, h10, A', R', AT', by omega, by go_num, HF⟩
                case measure => simp [intOf]; omega
              · have dv : (V != bst) = true := by simp [hvb]
                have dn : decide (1 < (n' : Int)) = false := decide_eq_false (by omega)
                go_wp2
                go_roundw
                case rel => exact ⟨x + 1, s4, h10, A', R', AT', by omega, by go_num, HF⟩
                case measure => simp [intOf]; omega
            · have hn1 : (1 : Int) < (n' : Int) := by omega
              have hbe := HVM.out e1
              clear e1 HVM
              subst hbe
              go_wp2
              go_roundw
              case rel => exact ⟨x + 1, s4, h10, A', R', AT', by omega, by go_num, HF⟩
              case measure => simp [intOf]; omega
end RF
end Go.Proofs.YtaodldagmmephaaGreat
