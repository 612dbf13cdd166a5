/- arboretumlaw20.RaftDown returns true, whatever its arguments (printed by gen-down.py). -/
import Derived.Test.YtaodldagmmephaaGreatB6
import Derived.Test.YtaodldagmmephaaGreatB7
namespace Go.Proofs.YtaodldagmmephaaGreat
open Go.RowKit Go.Maps
namespace RF
section
variable {rb base : Nat} {s : RS} {h : Hd} {w : World} {M : Int} {N : Nat}
theorem Ans.form3 {h0 : Hd} {e : Ending} {w' : World} (A : Ans rb base s h0 w e w') : ∃ p1 c1 p2 n2 c2, e = .returned (.agg #[.slice p1 s.out.ms.length c1, .bool s.out.hd, .int .i64 s.out.fr, .slice p2 n2 c2]) := by
  obtain ⟨v, h', rfl, _, _, _, ov, nv, mh, rfl, hm, h1, _, h2, _⟩ := A
  obtain ⟨p1, c1, e1⟩ := owns_slice h1
  obtain ⟨p2, c2, e2⟩ := owns_slice h2
  have hl : mh.length = s.out.ms.length := by
    rw [← List.length_map (f := fun x : Mg × Value => x.1), hm]
    rfl
  rw [hl] at e1
  exact ⟨p1, c1, p2, _, c2, by rw [e1, e2]; rfl⟩
theorem RB.stepM (B : RB M N s) (m : Mg) (hM : M + (max m.en.length 1 : Nat) ≤ 4503599627370496) (hN : N + max m.en.length 1 ≤ 10000) (hda : ∀ e ∈ m.en, e.da.size ≤ 2000000) : RB (M + (max m.en.length 1 : Nat)) (N + max m.en.length 1) (s.step m) := by
  have h1 : 1 ≤ max m.en.length 1 ∧ m.en.length ≤ max m.en.length 1 := by omega
  unfold RS.step
  split
  · rename_i hh
    exact (B.step0 m (max m.en.length 1) h1.1 h1.2 hM hN hda hh.2.2.2.2.2.2.2).1
  · exact B.mono (by omega) hM (by omega) hN
/-- How a message's entries lie, of one that came as an argument. -/
theorem MsgOk.ens' {m : Mg} {x : Mx} {W : World} (hok : MsgOk m x w) (hb : Below w.heap.size w W) (hda : ∀ e ∈ m.en, e.da.size ≤ 2000000) (H : Rf rb base s h W) (hlo : w.heap.size ≤ base) : EnsAt rb h m x W :=
  ⟨(hok.at'.en.below hb).more hb.size, hok.ecap.1, hda, fun h0 g o e hf => by
    obtain ⟨b, o', e', hb', _⟩ := hok.at'.en.2 h0
    rw [e] at e'
    injection e' with e'
    injection e' with e1 _ _
    have := (H.lt hf).1
    omega⟩
end
def viewL (s : RS) (v : Value) : List Value := [.int .i64 s.id, .int .i64 s.role, .int .i64 s.lead, .int .i64 s.term, .int .i64 s.vote, .int .i64 s.commit, .int .i64 s.b, .int .i64 (lastS s.b s.t s.l).1, .int .i64 (lastS s.b s.t s.l).2, .int .i64 s.elapsed, .int .i64 s.timeout, .int .i64 s.round, v]
set_option maxHeartbeats 2000000 in
set_option maxRecDepth 100000 in
theorem down_walk (n : Int) (m : Mg) (x : Mx) (w : World) (hok : MsgOk m x w) :
    Calls Tryz.prog 7 #[.int .i64 n, mxval m x] w fun e w' => e = .returned (.bool true) ∧ Below w.heap.size w w' := by
  have HAL := Lib.hid (fun W => alive_true W)
  have hb1 : Below w.heap.size w (w.alloc (.cells #[.int .i64 m.kd, .int .i64 m.fr, .int .i64 m.tq, .int .i64 m.tm, .int .i64 m.ix, .int .i64 m.lt, .int .i64 m.cm, .int .i64 m.rd, .bool m.ok, .bool x.dn, .slice x.pe m.en.length x.ce, .slice x.pm x.nm x.cm, .int .i64 x.of, .slice x.pp x.np x.cp] 48)) := (Below.refl _ w).alloc (Nat.le_refl _) _
  have X1 := CBox.fresh w [.int .i64 m.kd, .int .i64 m.fr, .int .i64 m.tq, .int .i64 m.tm, .int .i64 m.ix, .int .i64 m.lt, .int .i64 m.cm, .int .i64 m.rd, .bool m.ok, .bool x.dn, .slice x.pe m.en.length x.ce, .slice x.pm x.nm x.cm, .int .i64 x.of, .slice x.pp x.np x.cp] 48
  have HB1 := Lib.hid hb1
  have HOK := Lib.hid hok
  have HIX := Lib.hid hok.int.2.2.2.2.1
  have HSM := Lib.hid (small_msg m x (w.alloc (.cells #[.int .i64 m.kd, .int .i64 m.fr, .int .i64 m.tq, .int .i64 m.tm, .int .i64 m.ix, .int .i64 m.lt, .int .i64 m.cm, .int .i64 m.rd, .bool m.ok, .bool x.dn, .slice x.pe m.en.length x.ce, .slice x.pm x.nm x.cm, .int .i64 x.of, .slice x.pp x.np x.cp] 48)) (hok.at'.below hb1))
  unfold mxval at HSM ⊢
  clear hok hb1
  go_enter Tryz.func7, Tryz.ntmps7
  go_upto_region 1 with fail
  dsimp only [List.toArray] at X1 HSM
  generalize w.alloc (.cells #[.int .i64 m.kd, .int .i64 m.fr, .int .i64 m.tq, .int .i64 m.tm, .int .i64 m.ix, .int .i64 m.lt, .int .i64 m.cm, .int .i64 m.rd, .bool m.ok, .bool x.dn, .slice x.pe m.en.length x.ce, .slice x.pm x.nm x.cm, .int .i64 x.of, .slice x.pp x.np x.cp] 48) = W1 at *
  obtain ⟨b1, hb1⟩ : ∃ b1, b1 = w.heap.size := ⟨_, rfl⟩
  rw [← hb1] at X1 ⊢
  have HX1 := Lib.hid X1
  have HE1 := Lib.hid hb1
  clear X1 hb1
  have a0 := (HX1.out).1 0 _ rfl
  have a1 := (HX1.out).1 1 _ rfl
  have a2 := (HX1.out).1 2 _ rfl
  have a3 := (HX1.out).1 3 _ rfl
  have a4 := (HX1.out).1 4 _ rfl
  have a5 := (HX1.out).1 5 _ rfl
  have a6 := (HX1.out).1 6 _ rfl
  have a7 := (HX1.out).1 7 _ rfl
  have a8 := (HX1.out).1 8 _ rfl
  have a9 := (HX1.out).1 9 _ rfl
  have a10 := (HX1.out).1 10 _ rfl
  have a11 := (HX1.out).1 11 _ rfl
  have a12 := (HX1.out).1 12 _ rfl
  have a13 := (HX1.out).1 13 _ rfl
  go_cut [26] (fun s26 wx => ∃ β : Bool, s26 = .bool β ∧ Hid (Below W1.heap.size W1 wx) ∧ Hid (β = false → 1 ≤ n ∧ n ≤ 5 ∧ m.en.length ≤ 40 ∧ (∀ y ∈ m.en, y.da.size ≤ 12000) ∧ m.ix ≤ 1125899906842624))
  case first =>
    by_cases h1 : n < 1
    · have d1 : decide (n < 1) = true := decide_eq_true h1
      clear h1
      go_wp2
      go_meet
      case rel => exact ⟨_, rfl, Lib.hid (Below.refl _ _), Lib.hid (fun h => by cases h)⟩
    · have d1 : decide (n < 1) = false := decide_eq_false h1
      by_cases h2 : 5 < n
      · have d2 : decide (5 < n) = true := decide_eq_true h2
        clear h2
        go_wp2
        go_meet
        case rel => exact ⟨_, rfl, Lib.hid (Below.refl _ _), Lib.hid (fun h => by cases h)⟩
      · have d2 : decide (5 < n) = false := decide_eq_false h2
        have HNN : Hid (1 ≤ n ∧ n ≤ 5) := Lib.hid (by omega)
        clear h1 h2
        go_wp2_with fail
        with_reducible refine (HSM.out).mono ?_
        rintro e W2 ⟨⟨β, rfl, hβ⟩, hb2⟩
        have HB2 := Lib.hid hb2
        cases β with
        | false =>
          clear hb2 hβ
          go_wp2
          go_meet
          case rel => exact ⟨_, rfl, HB2, Lib.hid (fun h => by cases h)⟩
        | true =>
          have HSB := Lib.hid (hβ rfl)
          have c4 : W2.cell? ⟨b1, 4, none⟩ = some (.int .i64 m.ix) := (HX1.out.below hb2).1 4 _ rfl
          clear hb2 hβ
          by_cases h3 : 1125899906842624 < m.ix
          · have d3 : decide (1125899906842624 < m.ix) = true := decide_eq_true h3
            clear h3
            go_wp2
            go_meet
            case rel => exact ⟨_, rfl, HB2, Lib.hid (fun h => by cases h)⟩
          · have d3 : decide (1125899906842624 < m.ix) = false := decide_eq_false h3
            have HF : Hid (1 ≤ n ∧ n ≤ 5 ∧ m.en.length ≤ 40 ∧ (∀ y ∈ m.en, y.da.size ≤ 12000) ∧ m.ix ≤ 1125899906842624) := Lib.hid ⟨HNN.out.1, HNN.out.2, HSB.out.1, HSB.out.2, by omega⟩
            clear h3
            go_wp2
            go_meet
            case rel => exact ⟨_, rfl, HB2, Lib.hid (fun _ => HF.out)⟩
  case rest =>
  obtain ⟨β, rfl, HBW, HBE⟩ := hcut
  generalize wc = W2 at *
  clear a0 a1 a2 a3 a4 a5 a6 a7 a8 a9 a10 a11 a12 a13 HSM
  have HB2 := Lib.hid (HB1.out.trans (HBW.out.mono HB1.out.size))
  have HX2 := Lib.hid (HX1.out.below HBW.out)
  cases β with
  | true =>
    have HAC := Lib.hid (HAL.out W2)
    go_wp2_with fail
    with_reducible refine (HAC.out).mono ?_
    rintro e w2 ⟨rfl, hb2⟩
    have HB3 := Lib.hid (HB2.out.trans (hb2.mono HB2.out.size))
    go_wp2
    go_ret
    exact ⟨rfl, HB3.out⟩
  | false =>
  have hbd := HBE.out rfl
  clear HBE HBW HX1 HB1
  (try clear W1)
  obtain ⟨n', rfl⟩ := Int.eq_ofNat_of_zero_le (show 0 ≤ n by omega)
  have h1 : 1 ≤ n' := by omega
  have h5 : n' ≤ 5 := by omega
  have HBD := Lib.hid hbd.2.2
  have HGR := Lib.hid (grown_walk n' 1 h1 h5 (by omega) W2)
  have HFA := Lib.hid (okG_all h1 (gP_ok n' 1 h1 h5 (by omega)))
  have HBB := Lib.hid (gP_rb n' h1 (by omega) 1 (by omega))
  have HOU := Lib.hid (gP_out n' 1)
  have HID1 := Lib.hid (ids_one n' h1)
  rw [show ((1 : Nat) : Int) = 1 from rfl] at HGR
  generalize gP n' 1 = s at *
  clear hbd
  go_wp2_with fail
  with_reducible refine (HGR.out).mono ?_
  rintro e W3 ⟨rb, h, B0, rfl, hcl, hB0, hr3, hb3⟩
  have HB3 := Lib.hid (HB2.out.trans (hb3.mono HB2.out.size))
  have HX3 := Lib.hid (HX2.out.below hb3)
  have HCL := Lib.hid hcl
  have HS0 : Hid (w.heap.size ≤ B0) := Lib.hid (Nat.le_trans HB2.out.size hB0)
  have HS1 : Hid (b1 < B0) := Lib.hid (Nat.lt_of_lt_of_le HX2.out.2.2 hB0)
  have HR3 := Lib.hid hr3
  have HSV := Lib.hid (rf_state hr3 HBB.out)
  clear hcl hB0 hr3 hb3 HGR HX2 HB2
  (try clear W2)
  go_wp2_with fail
  with_reducible refine (HSV.out).mono ?_
  rintro e W4 ⟨v4, rfl, ho4, hb4⟩
  obtain ⟨p4, c4, hv4⟩ := owns_slice ho4
  subst hv4
  have HB4 := Lib.hid (HB3.out.trans (hb4.mono HB3.out.size))
  have HX4 := Lib.hid (HX3.out.below hb4)
  have HR4 := Lib.hid (HR3.out.below hb4)
  clear ho4 hb4 HSV HX3 HB3 HR3
  (try clear W3)
  unfold stateV
  rw [HFA.out.1, HFA.out.2.1]
  go_upto_region 7 with fail
  have Y0 := CBox.fresh W4 [.int .i64 s.id, .int .i64 2, .int .i64 s.lead, .int .i64 1, .int .i64 s.vote, .int .i64 s.commit, .int .i64 s.b, .int .i64 (lastS s.b s.t s.l).1, .int .i64 (lastS s.b s.t s.l).2, .int .i64 s.elapsed, .int .i64 s.timeout, .int .i64 s.round, .slice p4 s.all.length c4] 41
  have hb5 : Below W4.heap.size W4 (W4.alloc (.cells [.int .i64 s.id, .int .i64 2, .int .i64 s.lead, .int .i64 1, .int .i64 s.vote, .int .i64 s.commit, .int .i64 s.b, .int .i64 (lastS s.b s.t s.l).1, .int .i64 (lastS s.b s.t s.l).2, .int .i64 s.elapsed, .int .i64 s.timeout, .int .i64 s.round, .slice p4 s.all.length c4].toArray 41)) := (Below.refl _ W4).alloc (Nat.le_refl _) _
  dsimp only [List.toArray] at Y0 hb5
  generalize W4.alloc (.cells #[.int .i64 s.id, .int .i64 2, .int .i64 s.lead, .int .i64 1, .int .i64 s.vote, .int .i64 s.commit, .int .i64 s.b, .int .i64 (lastS s.b s.t s.l).1, .int .i64 (lastS s.b s.t s.l).2, .int .i64 s.elapsed, .int .i64 s.timeout, .int .i64 s.round, .slice p4 s.all.length c4] 41) = W5 at *
  have HB5 := Lib.hid (HB4.out.trans (hb5.mono HB4.out.size))
  have HX5 := Lib.hid (HX4.out.below hb5)
  have HR5 := Lib.hid (HR4.out.below hb5)
  have hb7 : W4.heap.size = W4.heap.size := rfl
  generalize hb7g : W4.heap.size = b7 at Y0 ⊢
  have HE7 : Hid (b1 < b7 ∧ rb < b7 ∧ ∀ k, Fo rb h k → k < b7) := Lib.hid (by
    rw [← hb7g]
    exact ⟨HX4.out.2.2, HR4.out.rlt, fun k hk => (HR4.out.lt hk).2⟩)
  have HY5 := Lib.hid Y0
  clear Y0 hb5 hb7 hb7g HX4 HB4 HR4
  (try clear W4)
  have HST := Lib.hid (rf_step m x HR5.out HBB.out (by have := HBD.out.1; omega) (by have := HBD.out.1; omega) HFA.out.2.2.2.2.2.2.2.2.2.2.2.2.2 HCL.out HOU.out (HOK.out.ens' HB5.out (fun e he => by have := HBD.out.2.1 e he; omega) HR5.out HS0.out) ((bounds_i64 HIX.out).1) (by have := HBD.out.2.2; omega))
  have HBS := Lib.hid ((HBB.out.stepM m (by have := HBD.out.1; omega) (by have := HBD.out.1; omega) (fun e he => by have := HBD.out.2.1 e he; omega)).fin)
  unfold mxval at HST
  have a0 := (HX5.out).1 0 _ rfl
  have a1 := (HX5.out).1 1 _ rfl
  have a2 := (HX5.out).1 2 _ rfl
  have a3 := (HX5.out).1 3 _ rfl
  have a4 := (HX5.out).1 4 _ rfl
  have a5 := (HX5.out).1 5 _ rfl
  have a6 := (HX5.out).1 6 _ rfl
  have a7 := (HX5.out).1 7 _ rfl
  have a8 := (HX5.out).1 8 _ rfl
  have a9 := (HX5.out).1 9 _ rfl
  have a10 := (HX5.out).1 10 _ rfl
  have a11 := (HX5.out).1 11 _ rfl
  have a12 := (HX5.out).1 12 _ rfl
  have a13 := (HX5.out).1 13 _ rfl
  go_wp2_with fail
  with_reducible refine (HST.out).mono ?_
  intro e W6 hA
  obtain ⟨p6, c6, q6, n6, d6, rfl⟩ := hA.form3
  obtain ⟨_, h6, _, hcl6, hr6, hp6, _⟩ := hA
  have hb56 : Below w.heap.size W5 W6 := hp6.1.below HB5.out.size (fun k hk => Nat.le_trans HS0.out (HR5.out.lt hk).1)
  have HB6 := Lib.hid (HB5.out.trans hb56)
  have HX6 := Lib.hid (HX5.out.keep hp6.1 (fun e => by have := (HR5.out.lt e).1; have := HS1.out; omega))
  have HY6 := Lib.hid (HY5.out.keep hp6.1 (fun e => by have := HE7.out.2.2 b7 e; omega))
  have HR6 := Lib.hid hr6
  have HL : Hid (s.heeds m → 1 < m.tm → (s.step m).fin.term = m.tm ∧ (s.step m).fin.role = 0 ∧ (s.step m).out.hd = true ∧ ((s.step m).fin.vote = 0 ∨ (s.step m).fin.vote = m.fr ∧ m.kd = 1)) := Lib.hid (fun hh ht => step_later hh (by rw [HFA.out.2.1]; exact ht))
  have HS : Hid (s.heeds m → m.tm = 1 → (s.step m).fin.term = 1 ∧ (s.step m).fin.role = 2) := Lib.hid (fun hh ht => by
    have hc := Core.parts (step_same hh (by rw [HFA.out.2.1]; exact ht) (by rw [all_snap (fun e he => (HFA.out.2.2.2.2.2.2.1 e he).2), HFA.out.2.2.2.2.2.2.2.1, HFA.out.2.2.1]; exact HID1.out) HFA.out.1)
    exact ⟨hc.2.1.trans HFA.out.2.1, hc.1.trans HFA.out.1⟩)
  have HD : Hid (¬ s.heeds m → (s.step m).fin.term = 1 ∧ (s.step m).fin.role = 2 ∧ (s.step m).fin.commit = s.commit ∧ (lastS (s.step m).fin.b (s.step m).fin.t (s.step m).fin.l).1 = (lastS s.b s.t s.l).1 ∧ (s.step m).out.hd = false ∧ (s.step m).out.ms.length = 0) := Lib.hid (fun hh => by
    rw [step_deaf hh]
    refine ⟨HFA.out.2.1, HFA.out.1, rfl, rfl, ?_, ?_⟩
    · rw [HOU.out]; rfl
    · rw [HOU.out]; rfl)
  have HHD : Hid (s.heeds m ↔ (m.tq = 1 ∧ 1 ≤ m.fr ∧ m.fr ≤ 64 ∧ m.fr ≠ 1 ∧ 1 ≤ m.kd ∧ m.kd ≤ 6 ∧ 1 ≤ m.tm ∧ m.tm ≤ 1152921504606846976)) := Lib.hid (by unfold RS.heeds; rw [HFA.out.2.2.1])
  clear hcl6 hr6 hp6 hb56 HST HX5 HB5 HR5 HY5 a0 a1 a2 a3 a4 a5 a6 a7 a8 a9 a10 a11 a12 a13
  (try clear W5)
  generalize (s.step m).out.hd = hd at *
  generalize (s.step m).out.fr = ofr at *
  generalize (s.step m).out.ms.length = ml at *
  generalize (s.step m).fin = z at *
  go_upto_region 8 with fail
  have Z0 := CBox.fresh W6 [.slice p6 ml c6, .bool hd, .int .i64 ofr, .slice q6 n6 d6] 37
  have hb7 : Below W6.heap.size W6 (W6.alloc (.cells [.slice p6 ml c6, .bool hd, .int .i64 ofr, .slice q6 n6 d6].toArray 37)) := (Below.refl _ W6).alloc (Nat.le_refl _) _
  dsimp only [List.toArray] at Z0 hb7
  generalize W6.alloc (.cells #[.slice p6 ml c6, .bool hd, .int .i64 ofr, .slice q6 n6 d6] 37) = W7 at *
  have HB7 := Lib.hid (HB6.out.trans (hb7.mono HB6.out.size))
  have HX7 := Lib.hid (HX6.out.below hb7)
  have HY7 := Lib.hid (HY6.out.below hb7)
  have HSV := Lib.hid (rf_state (HR6.out.below hb7) HBS.out)
  generalize W6.heap.size = b8 at Z0 ⊢
  have HZ7 := Lib.hid Z0
  clear Z0 hb7 HX6 HB6 HR6 HY6
  (try clear W6)
  go_wp2_with fail
  with_reducible refine (HSV.out).mono ?_
  rintro e W8 ⟨v8, rfl, ho8, hb8⟩
  obtain ⟨p8, c8, hv8⟩ := owns_slice ho8
  subst hv8
  have HB8 := Lib.hid (HB7.out.trans (hb8.mono HB7.out.size))
  have HX8 := Lib.hid (HX7.out.below hb8)
  have HY8 := Lib.hid (HY7.out.below hb8)
  have HZ8 := Lib.hid (HZ7.out.below hb8)
  clear ho8 hb8 HSV HX7 HY7 HZ7 HB7
  (try clear W7)
  unfold stateV
  generalize z.all.length = zal at *
  generalize (lastS z.b z.t z.l).1 = zla at *
  generalize (lastS z.b z.t z.l).2 = zlt at *
  go_upto_region 9 with fail
  have V0 := CBox.fresh W8 [.int .i64 z.id, .int .i64 z.role, .int .i64 z.lead, .int .i64 z.term, .int .i64 z.vote, .int .i64 z.commit, .int .i64 z.b, .int .i64 zla, .int .i64 zlt, .int .i64 z.elapsed, .int .i64 z.timeout, .int .i64 z.round, .slice p8 zal c8] 41
  have hb9 : Below W8.heap.size W8 (W8.alloc (.cells [.int .i64 z.id, .int .i64 z.role, .int .i64 z.lead, .int .i64 z.term, .int .i64 z.vote, .int .i64 z.commit, .int .i64 z.b, .int .i64 zla, .int .i64 zlt, .int .i64 z.elapsed, .int .i64 z.timeout, .int .i64 z.round, .slice p8 zal c8].toArray 41)) := (Below.refl _ W8).alloc (Nat.le_refl _) _
  dsimp only [List.toArray] at V0 hb9
  generalize W8.alloc (.cells #[.int .i64 z.id, .int .i64 z.role, .int .i64 z.lead, .int .i64 z.term, .int .i64 z.vote, .int .i64 z.commit, .int .i64 z.b, .int .i64 zla, .int .i64 zlt, .int .i64 z.elapsed, .int .i64 z.timeout, .int .i64 z.round, .slice p8 zal c8] 41) = W9 at *
  have HB9 := Lib.hid (HB8.out.trans (hb9.mono HB8.out.size))
  have HX9 := Lib.hid (HX8.out.below hb9)
  have HY9 := Lib.hid (HY8.out.below hb9)
  have HZ9 := Lib.hid (HZ8.out.below hb9)
  generalize W8.heap.size = b9 at V0 ⊢
  have HV9 := Lib.hid V0
  clear V0 hb9 HX8 HB8 HY8 HZ8
  (try clear W8)
  have a0 := HX9.out.1 0 _ rfl
  have a1 := HX9.out.1 1 _ rfl
  have a2 := HX9.out.1 2 _ rfl
  have a3 := HX9.out.1 3 _ rfl
  have y3 := HY9.out.1 3 _ rfl
  go_cut [10] (fun s10 wx => ∃ β : Bool, s10 = .bool β ∧ wx = W9 ∧ Hid (Dec β (m.tq = 1 ∧ 1 ≤ m.fr ∧ m.fr ≤ 64 ∧ m.fr ≠ 1 ∧ 1 ≤ m.kd ∧ m.kd ≤ 6 ∧ 1 ≤ m.tm ∧ m.tm ≤ 1152921504606846976)))
  case first =>
    by_cases hz0 : m.tq = 1
    case neg =>
      have HN : Hid (Dec false (m.tq = 1 ∧ 1 ≤ m.fr ∧ m.fr ≤ 64 ∧ m.fr ≠ 1 ∧ 1 ≤ m.kd ∧ m.kd ≤ 6 ∧ 1 ≤ m.tm ∧ m.tm ≤ 1152921504606846976)) := Lib.hid (Dec.f (fun h => hz0 h.1))
      have dz0 : (m.tq == 1) = false := by simp [hz0]
      clear hz0
      go_wp2
      go_meet
      case rel => exact ⟨_, rfl, rfl, HN⟩
    have dz0 : (m.tq == 1) = true := by simp [hz0]
    by_cases hz1 : 1 ≤ m.fr
    case neg =>
      have HN : Hid (Dec false (m.tq = 1 ∧ 1 ≤ m.fr ∧ m.fr ≤ 64 ∧ m.fr ≠ 1 ∧ 1 ≤ m.kd ∧ m.kd ≤ 6 ∧ 1 ≤ m.tm ∧ m.tm ≤ 1152921504606846976)) := Lib.hid (Dec.f (fun h => hz1 h.2.1))
      have dz1 : decide (1 ≤ m.fr) = false := decide_eq_false hz1
      clear hz0 hz1
      go_wp2
      go_meet
      case rel => exact ⟨_, rfl, rfl, HN⟩
    have dz1 : decide (1 ≤ m.fr) = true := decide_eq_true hz1
    by_cases hz2 : m.fr ≤ 64
    case neg =>
      have HN : Hid (Dec false (m.tq = 1 ∧ 1 ≤ m.fr ∧ m.fr ≤ 64 ∧ m.fr ≠ 1 ∧ 1 ≤ m.kd ∧ m.kd ≤ 6 ∧ 1 ≤ m.tm ∧ m.tm ≤ 1152921504606846976)) := Lib.hid (Dec.f (fun h => hz2 h.2.2.1))
      have dz2 : decide (m.fr ≤ 64) = false := decide_eq_false hz2
      clear hz0 hz1 hz2
      go_wp2
      go_meet
      case rel => exact ⟨_, rfl, rfl, HN⟩
    have dz2 : decide (m.fr ≤ 64) = true := decide_eq_true hz2
    by_cases hz3 : m.fr ≠ 1
    case neg =>
      have HN : Hid (Dec false (m.tq = 1 ∧ 1 ≤ m.fr ∧ m.fr ≤ 64 ∧ m.fr ≠ 1 ∧ 1 ≤ m.kd ∧ m.kd ≤ 6 ∧ 1 ≤ m.tm ∧ m.tm ≤ 1152921504606846976)) := Lib.hid (Dec.f (fun h => hz3 h.2.2.2.1))
      have dz3 : (m.fr != 1) = false := by simp [Decidable.of_not_not hz3]
      clear hz0 hz1 hz2 hz3
      go_wp2
      go_meet
      case rel => exact ⟨_, rfl, rfl, HN⟩
    have dz3 : (m.fr != 1) = true := by simp [hz3]
    by_cases hz4 : 1 ≤ m.kd
    case neg =>
      have HN : Hid (Dec false (m.tq = 1 ∧ 1 ≤ m.fr ∧ m.fr ≤ 64 ∧ m.fr ≠ 1 ∧ 1 ≤ m.kd ∧ m.kd ≤ 6 ∧ 1 ≤ m.tm ∧ m.tm ≤ 1152921504606846976)) := Lib.hid (Dec.f (fun h => hz4 h.2.2.2.2.1))
      have dz4 : decide (1 ≤ m.kd) = false := decide_eq_false hz4
      clear hz0 hz1 hz2 hz3 hz4
      go_wp2
      go_meet
      case rel => exact ⟨_, rfl, rfl, HN⟩
    have dz4 : decide (1 ≤ m.kd) = true := decide_eq_true hz4
    by_cases hz5 : m.kd ≤ 6
    case neg =>
      have HN : Hid (Dec false (m.tq = 1 ∧ 1 ≤ m.fr ∧ m.fr ≤ 64 ∧ m.fr ≠ 1 ∧ 1 ≤ m.kd ∧ m.kd ≤ 6 ∧ 1 ≤ m.tm ∧ m.tm ≤ 1152921504606846976)) := Lib.hid (Dec.f (fun h => hz5 h.2.2.2.2.2.1))
      have dz5 : decide (m.kd ≤ 6) = false := decide_eq_false hz5
      clear hz0 hz1 hz2 hz3 hz4 hz5
      go_wp2
      go_meet
      case rel => exact ⟨_, rfl, rfl, HN⟩
    have dz5 : decide (m.kd ≤ 6) = true := decide_eq_true hz5
    by_cases hz6 : 1 ≤ m.tm
    case neg =>
      have HN : Hid (Dec false (m.tq = 1 ∧ 1 ≤ m.fr ∧ m.fr ≤ 64 ∧ m.fr ≠ 1 ∧ 1 ≤ m.kd ∧ m.kd ≤ 6 ∧ 1 ≤ m.tm ∧ m.tm ≤ 1152921504606846976)) := Lib.hid (Dec.f (fun h => hz6 h.2.2.2.2.2.2.1))
      have dz6 : decide (1 ≤ m.tm) = false := decide_eq_false hz6
      clear hz0 hz1 hz2 hz3 hz4 hz5 hz6
      go_wp2
      go_meet
      case rel => exact ⟨_, rfl, rfl, HN⟩
    have dz6 : decide (1 ≤ m.tm) = true := decide_eq_true hz6
    by_cases hz7 : m.tm ≤ 1152921504606846976
    case neg =>
      have HN : Hid (Dec false (m.tq = 1 ∧ 1 ≤ m.fr ∧ m.fr ≤ 64 ∧ m.fr ≠ 1 ∧ 1 ≤ m.kd ∧ m.kd ≤ 6 ∧ 1 ≤ m.tm ∧ m.tm ≤ 1152921504606846976)) := Lib.hid (Dec.f (fun h => hz7 h.2.2.2.2.2.2.2))
      have dz7 : decide (m.tm ≤ 1152921504606846976) = false := decide_eq_false hz7
      clear hz0 hz1 hz2 hz3 hz4 hz5 hz6 hz7
      go_wp2
      go_meet
      case rel => exact ⟨_, rfl, rfl, HN⟩
    have dz7 : decide (m.tm ≤ 1152921504606846976) = true := decide_eq_true hz7
    have HN : Hid (Dec true (m.tq = 1 ∧ 1 ≤ m.fr ∧ m.fr ≤ 64 ∧ m.fr ≠ 1 ∧ 1 ≤ m.kd ∧ m.kd ≤ 6 ∧ 1 ≤ m.tm ∧ m.tm ≤ 1152921504606846976)) := Lib.hid (Dec.t ⟨hz0, hz1, hz2, hz3, hz4, hz5, hz6, hz7⟩)
    clear hz0 hz1 hz2 hz3 hz4 hz5 hz6 hz7
    go_wp2
    go_meet
    case rel => exact ⟨_, rfl, rfl, HN⟩
  case rest =>
  obtain ⟨β, rfl, hwc, HBE⟩ := hcut
  have hwc := hwc.symm
  subst hwc
  have HA9 := Lib.hid (HAL.out W9)
  cases β with
  | true =>
    have hh := HBE.out.1 rfl
    have HHE := Lib.hid (HHD.out.2 hh)
    have hfr : 1 ≤ m.fr := hh.2.1
    have htm : 1 ≤ m.tm := hh.2.2.2.2.2.2.1
    clear hh HBE HHD HD
    by_cases ht : 1 < m.tm
    · have d1 : decide (1 < m.tm) = true := decide_eq_true ht
      obtain ⟨z1, z2, z3, z4⟩ := HL.out HHE.out ht
      have HZV := Lib.hid z4
      have HZ1 := Lib.hid z1
      have HZ2 := Lib.hid z2
      subst z3
      clear z1 z2 z4 ht htm
      go_wp2_with fail
      with_reducible refine (HA9.out).mono ?_
      rintro e W10 ⟨rfl, hb10⟩
      have HBF := Lib.hid (HB9.out.trans (hb10.mono HB9.out.size))
      have r0 := (HX9.out.below hb10).1 0 _ rfl
      have r1 := (HX9.out.below hb10).1 1 _ rfl
      have r3 := (HX9.out.below hb10).1 3 _ rfl
      have v1 := (HV9.out.below hb10).1 1 _ rfl
      have v3 := (HV9.out.below hb10).1 3 _ rfl
      have v4 := (HV9.out.below hb10).1 4 _ rfl
      have o1 := (HZ9.out.below hb10).1 1 _ rfl
      rw [HZ2.out] at v1
      rw [HZ1.out] at v3
      clear hb10 a0 a1 a2 a3 y3
      have d0 : (m.fr == 0) = false := by
        have : m.fr ≠ 0 := by omega
        simp [this]
      rcases HZV.out with hv | ⟨hv, hk⟩
      · rw [hv] at v4
        clear hv
        go_wp2
        go_ret
        exact ⟨rfl, HBF.out⟩
      · rw [hv] at v4
        rw [hk] at r0
        clear hv hk
        go_wp2
        go_ret
        exact ⟨rfl, HBF.out⟩
    · have d1 : decide (1 < m.tm) = false := decide_eq_false ht
      have d2 : decide (m.tm < 1) = false := decide_eq_false (by omega)
      obtain ⟨z1, z2⟩ := HS.out HHE.out (by omega)
      have HZ1 := Lib.hid z1
      have HZ2 := Lib.hid z2
      clear z1 z2 ht htm
      go_wp2_with fail
      with_reducible refine (HA9.out).mono ?_
      rintro e W10 ⟨rfl, hb10⟩
      have HBF := Lib.hid (HB9.out.trans (hb10.mono HB9.out.size))
      have v1 := (HV9.out.below hb10).1 1 _ rfl
      have v3 := (HV9.out.below hb10).1 3 _ rfl
      have y3' := (HY9.out.below hb10).1 3 _ rfl
      rw [HZ2.out] at v1
      rw [HZ1.out] at v3
      clear hb10 a0 a1 a2 a3 y3
      go_wp2
      go_ret
      exact ⟨rfl, HBF.out⟩
  | false =>
    obtain ⟨z1, z2, z3, z4, z5, z6⟩ := HD.out (fun h => by have := HBE.out.2 (HHD.out.1 h); cases this)
    have HZ1 := Lib.hid z1
    have HZ2 := Lib.hid z2
    have HZ3 := Lib.hid z3
    subst z5 z6
    rw [z4] at HV9
    clear z1 z2 z3 z4
    go_wp2_with fail
    with_reducible refine (HA9.out).mono ?_
    rintro e W10 ⟨rfl, hb10⟩
    have HBF := Lib.hid (HB9.out.trans (hb10.mono HB9.out.size))
    have v1 := (HV9.out.below hb10).1 1 _ rfl
    have v3 := (HV9.out.below hb10).1 3 _ rfl
    have v5 := (HV9.out.below hb10).1 5 _ rfl
    have v7 := (HV9.out.below hb10).1 7 _ rfl
    have y1' := (HY9.out.below hb10).1 1 _ rfl
    have y3' := (HY9.out.below hb10).1 3 _ rfl
    have y5' := (HY9.out.below hb10).1 5 _ rfl
    have y7' := (HY9.out.below hb10).1 7 _ rfl
    have o0 := (HZ9.out.below hb10).1 0 _ rfl
    have o1 := (HZ9.out.below hb10).1 1 _ rfl
    rw [HZ2.out] at v1
    rw [HZ1.out] at v3
    rw [HZ3.out] at v5
    clear hb10 a0 a1 a2 a3 y3
    go_wp2
    go_ret
    exact ⟨rfl, HBF.out⟩
end RF
end Go.Proofs.YtaodldagmmephaaGreat
