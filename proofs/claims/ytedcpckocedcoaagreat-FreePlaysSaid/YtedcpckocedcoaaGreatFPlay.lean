/- arboretumlaw6.FreePlays: the walk. -/
import Derived.Test.YtedcpckocedcoaaGreatFPG
import Derived.Test.YtedcpckocedcoaaGreatB1
import Derived.Deep.DeepCutAuto
import Derived.Deep.CutBlock
import Derived.Deep.LoopGhost
namespace Go.Proofs.YtedcpckocedcoaaGreat
open Go.RowKit

def fopAt (zs : List FrOp) (i : Nat) : FrOp := zs.getD i default
theorem foc_cells {w : World} {B n : Nat} {p : Option Addr} {zs : List FrOp} (h : RdG foc w B p n zs) (i : Nat) (hi : i < n) : ∃ b o, p = some ⟨b, o, none⟩ ∧ b < B ∧ w.cell? ⟨b, o + i * 3, none⟩ = some (.int .i64 (fopAt zs i).k) ∧ w.cell? ⟨b, o + i * 3 + 1, none⟩ = some (.int .i64 (fopAt zs i).t) ∧ w.cell? ⟨b, o + i * 3 + 2, none⟩ = some (.slice (fopAt zs i).p (fopAt zs i).n (fopAt zs i).c) := by
  obtain ⟨b, o, e, hb, hc⟩ := h.2 (by omega)
  have hl := h.1
  have r : ∀ c v, c < 3 → (foc (fopAt zs i))[c]? = some v → w.cell? ⟨b, o + i * 3 + c, none⟩ = some v := fun c v hc5 hv => by
    have e1 := rowOf_at foc foc_length zs i c (by omega) hc5
    have e2 := hc (i * 3 + c) v (by rw [e1]; exact hv)
    rw [← Nat.add_assoc] at e2
    exact e2
  exact ⟨b, o, e, hb, r 0 _ (by omega) rfl, r 1 _ (by omega) rfl, r 2 _ (by omega) rfl⟩

/-- Where the loop begins. -/
def FPB (w W : World) (fb rb : Nat) : Prop := ∃ l Fq lv, Fe fb w.heap.size l [] 0 (.map []) Fq W ∧ RFI rb w.heap.size lv (.slice none 0 0) (.slice none 0 0) (CL.srt l) [] [] W ∧ (∀ j, Fq j → ¬ rfF rb lv (.slice none 0 0) (.slice none 0 0) j) ∧ l.length ≤ 100 ∧ w.heap.size ≤ fb ∧ w.heap.size ≤ rb ∧ Below w.heap.size w W
theorem FPB.start {w W : World} {fb rb : Nat} (h : FPB w W fb rb) : FPI w fb rb W.heap.size 0 (fun _ => False) (W.alloc (.cells (List.replicate 22 (Value.slice none 0 0)).toArray 53)) := by
  obtain ⟨l, Fq, lv, h1, h2, h3, h4, h5, h6, h7⟩ := h
  exact fp_start h1 h2 h3 rfl h4 h5 h6 h7
theorem FPB.below {w W W' : World} {fb rb : Nat} (h : FPB w W fb rb) (hb : Below W.heap.size W W') : FPB w W' fb rb := by
  obtain ⟨l, Fq, lv, h1, h2, h3, h4, h5, h6, h7⟩ := h
  exact ⟨l, Fq, lv, h1.below hb, h2.below hb, h3, h4, h5, h6, h7.trans (hb.mono h7.size)⟩
theorem FPB.zero {w W : World} (hb : Below w.heap.size w W) : FPB w ((W.alloc (.cells #[.slice none 0 0, .slice none 0 0, .map none] 39)).alloc (.cells #[.slice none 0 0, .slice none 0 0, .slice none 0 0] 31)) W.heap.size (W.heap.size + 1) := by
  have B1 : Below W.heap.size W (W.alloc (.cells #[.slice none 0 0, .slice none 0 0, .map none] 39)) := (Below.refl _ W).alloc (Nat.le_refl _) _
  have hs : (W.alloc (.cells #[.slice none 0 0, .slice none 0 0, .map none] 39)).heap.size = W.heap.size + 1 := by simp
  have B2 : ∀ o, Below (W.alloc (.cells #[.slice none 0 0, .slice none 0 0, .map none] 39)).heap.size (W.alloc (.cells #[.slice none 0 0, .slice none 0 0, .map none] 39)) ((W.alloc (.cells #[.slice none 0 0, .slice none 0 0, .map none] 39)).alloc o) := fun o => (Below.refl _ _).alloc (Nat.le_refl _) o
  have hr := rfi_new (W := W.alloc (.cells #[.slice none 0 0, .slice none 0 0, .map none] 39)) (base := w.heap.size) (n := 0) (u := .slice none 0 0) (L := []) (World.ownsRow_nil _ _ _ _) rfl (by rw [hs]; have := hb.size; omega) 31
  rw [hs] at hr
  have hsrt : CL.srt [] = [] := by simp [CL.srt]
  refine ⟨[], _, _, (((fe_fresh W).less hb.size).below (B2 _)), by rw [hsrt]; exact hr, ?_, by simp, hb.size, by have := hb.size; omega, hb.trans ((B1.mono hb.size).trans ((B2 _).mono (by rw [hs]; have := hb.size; omega)))⟩
  rintro j hj (e | e | e | e)
  · have hj' : j = W.heap.size := hj
    omega
  · cases e
  · cases e
  · cases e

/-- The worlds in which only blocks of S, and new ones, have changed. -/
def KeptF (S : Nat → Prop) (w : World) : Type := {W : World // Fr S w W}
instance (S : Nat → Prop) (w : World) : Inhabited (KeptF S w) := ⟨⟨w, Fr.refl _ _⟩⟩

/-- Lists that are alike are told so. -/
theorem same_true {V : World} {p q : Option Addr} {n m c d : Nat} {zs : List Int} {B B' : Nat} (h1 : RdI V B p n zs) (h2 : RdI V B' q m zs) (hn : n ≤ 1000000) :
    Calls Tryz.prog 25 #[.slice p n c, .slice q m d] V fun e w' => e = .returned (.bool true) ∧ Below V.heap.size V w' := by
  refine (same_ints p q n c m d zs zs V B B' h1 h2 hn (by rw [← h2.1, h1.1]; exact hn)).mono ?_
  rintro e w' ⟨b, k, rfl, hb, rfl⟩
  exact ⟨by rw [hb.2 rfl], ((Fr.refl (fun _ => False) V).drewN k).below (Nat.le_refl _) (fun _ h => h.elim)⟩

set_option maxHeartbeats 4000000 in
set_option maxRecDepth 100000 in
theorem fplays_go (z : Bool) (p q : Option Addr) (n c m d : Nat) (zs : List Int) (os : List FrOp) (w : World) (h : RdI w w.heap.size p n zs) (hp0 : p = none → c = 0) (h2 : RdG foc w w.heap.size q m os) (hok : ∀ i, i < m → fok w (fopAt os i)) (hn : n ≤ 100) (hm : m ≤ 150) : Calls Tryz.prog 3 #[.slice p n c, .bool z, .slice q m d] w fun e w' => e = .returned (.bool true) ∧ Below w.heap.size w w' := by
  have HA := Lib.hid (fun w => falive_true w)
  have H := Lib.hid h
  have H2 := Lib.hid h2
  have HOK := Lib.hid hok
  have HL := Lib.hid (lent_ints p n c zs w h hp0 (by omega))
  have HZL := Lib.hid h.1
  clear h h2 hok hp0
  go_enter Tryz.func3, Tryz.ntmps3
  go_wp2_with fail
  refine HL.out.mono ?_
  rintro e w1 ⟨lq, ld, rfl, hl, hb1⟩
  have HL1 := Lib.hid hl
  have HB1 := Lib.hid hb1
  have HN := Lib.hid (fe_new lq n ld zs w1 hl.rd (by omega))
  clear hl hb1 HL
  go_wp2_with fail
  refine HN.out.mono ?_
  rintro e w2 ⟨rfl, l, F, hf, hperm, hb2⟩
  have HB2 : Hid (Below w.heap.size w w2) := Lib.hid (HB1.out.trans (hb2.mono HB1.out.size))
  have HS := Lib.hid (ref_sorted p n c zs w2 ((H.out.below HB2.out).more HB2.out.size) (by omega))
  have HF := Lib.hid hf
  have HPM := Lib.hid hperm
  have HL2 := Lib.hid (HL1.out.below hb2)
  have hs12 := hb2.size
  clear hf hperm hb2 HN HL1
  go_wp2_with fail
  refine HS.out.mono ?_
  rintro e w3 ⟨u, rfl, ho, hb3⟩
  obtain ⟨up, uc, hu⟩ := owns_slice ho
  subst hu
  have hb13 : Below w.heap.size w w3 := HB2.out.trans (hb3.mono HB2.out.size)
  have B4 : Below w3.heap.size w3 (w3.alloc (.cells #[.slice up n uc, .slice none 0 0, .slice none 0 0] 31)) := (Below.refl _ w3).alloc (Nat.le_refl _) _
  have hlen : l.length = n := by rw [HPM.out.length_eq, HZL.out]
  have hls : (CL.srt l).length = n := by rw [(CL.srt_perm l).length_eq, hlen]
  have hsrt : CL.srt zs = CL.srt l := (srt_perm_eq HPM.out).symm
  rw [hsrt] at ho
  have hbs1 := HB1.out.size
  have hbs3 := hb3.size
  have hdis : ∀ j, F j → ¬ rfF w3.heap.size (.slice up n uc) (.slice none 0 0) (.slice none 0 0) j := by
    rintro j hj (e | e | e | e)
    · have := HF.out.lt j hj; omega
    · have h1 := (ho.lt j e).1
      have := HF.out.lt j hj
      omega
    · cases e
    · cases e
  have HB4 : Hid (Below w.heap.size w (w3.alloc (.cells #[.slice up n uc, .slice none 0 0, .slice none 0 0] 31))) := Lib.hid (hb13.trans (B4.mono hb13.size))
  have HFB : Hid (FPB w (w3.alloc (.cells #[.slice up n uc, .slice none 0 0, .slice none 0 0] 31)) w1.heap.size w3.heap.size) := Lib.hid ⟨l, F, _, ((HF.out.less (base' := w.heap.size) hbs1).below hb3).below B4, rfi_new (owns_low ho HB2.out.size) hls hb13.size 31, hdis, by omega, hbs1, by omega, HB4.out⟩
  have HSTY := Lib.hid (stays_ints _ lq p n ld n c zs _ ((HL2.out.below hb3).below B4) ((H.out.below HB4.out).more HB4.out.size) (by omega))
  clear ho hb3 hb13 B4 hlen hls hsrt hdis HS HF HPM HL2
  go_wp2_with fail
  refine HSTY.out.mono ?_
  rintro e w5 ⟨rfl, hb5⟩
  have HB5 : Hid (Below w.heap.size w w5) := Lib.hid (HB4.out.trans (hb5.mono HB4.out.size))
  have HFB5 := Lib.hid (HFB.out.below hb5)
  clear hb5 HSTY HFB HB4
  go_upto_if 41 with fail
  go_cut [8, 9] (fun s8 s9 wx => ∃ fb rb : Nat, s8 = .pointer (some ⟨fb, 0, none⟩) ∧ s9 = .pointer (some ⟨rb, 0, none⟩) ∧ Hid (FPB w wx fb rb))
  case first =>
    cases z
    · go_wp2
      go_meet
      case rel => exact ⟨_, _, rfl, rfl, HFB5⟩
    · go_wp2
      go_meet
      case rel => exact ⟨_, _, rfl, rfl, Lib.hid (FPB.zero HB5.out)⟩
  case rest =>
    obtain ⟨Wb, hWb⟩ : ∃ Wb, Wb = wc := ⟨_, rfl⟩
    subst hWb
    obtain ⟨fb, rb, rfl, rfl, HFBR⟩ := hcut
    have HST := Lib.hid HFBR.out.start
    clear HB1 HFB5 HB5 HFBR hs12 hbs1 hbs3
    go_wp2
    go_loopg [11] m (fun gk iv wr => ∃ i : Nat, gk = m - i ∧ i ≤ m ∧ iv = .int .i64 i ∧ Hid (FPI w fb rb Wb.heap.size i (fun _ => False) wr))
    case atStart => exact ⟨0, by omega, Nat.zero_le _, rfl, HST⟩
    case round =>
      clear HST
      obtain ⟨i, hgk, hi, rfl, hI⟩ := hrel
      subst hgk
      obtain ⟨wo, hwo⟩ : ∃ wo, wo = wr := ⟨_, rfl⟩
      subst hwo
      by_cases hlt : i < m
      · obtain ⟨b, o, hpe, hbl, x0, x1, x2⟩ := foc_cells (H2.out.below hI.out.bel) i hlt
        have hop := HOK.out i hlt
        subst hpe
        generalize fopAt os i = x at *
        obtain ⟨xk, xt, xp, xn, xc, xz⟩ := x
        simp only at x0 x1 x2
        have HTW := Lib.hid hop.1
        have HXZ := Lib.hid hop.2.1
        have HX0 := Lib.hid hop.2.2
        simp only at HTW HXZ HX0
        clear hop
        have hsz := hI.out.bel.size
        by_cases hx60 : 60 < xn
        · have HB0 := Lib.hid hI.out.bel
          clear hI
          go_wp2
          go_ret
          exact ⟨rfl, HB0.out.alloc hsz _⟩
        · have HI0 := Lib.hid (hI.out.new (O' := fun j => j = wo.heap.size) (W' := wo.alloc (.cells #[.int .i64 xk, .int .i64 xt, .slice xp xn xc] 55)) ((Below.refl _ wo).alloc (Nat.le_refl _) _) (fun j hj => .inr ⟨by omega, by simp; omega⟩))
          have HLE := Lib.hid (lent_ints xp xn xc xz (wo.alloc (.cells #[.int .i64 xk, .int .i64 xt, .slice xp xn xc] 55)) ((HXZ.out.below HI0.out.bel).more HI0.out.bel.size) HX0.out (by omega))
          have HOB : Hid (∀ V : World, Below (wo.heap.size + 1) (wo.alloc (.cells #[.int .i64 xk, .int .i64 xt, .slice xp xn xc] 55)) V → V.cell? ⟨wo.heap.size, 0, none⟩ = some (.int .i64 xk) ∧ V.cell? ⟨wo.heap.size, 1, none⟩ = some (.int .i64 xt) ∧ V.cell? ⟨wo.heap.size, 2, none⟩ = some (.slice xp xn xc)) := Lib.hid (fun V hV => by
            refine ⟨(hV.cell (p := ⟨wo.heap.size, 0, none⟩) (by simp)).trans (by go_simp), (hV.cell (p := ⟨wo.heap.size, 1, none⟩) (by simp)).trans (by go_simp), (hV.cell (p := ⟨wo.heap.size, 2, none⟩) (by simp)).trans (by go_simp)⟩)
          clear hI
          go_wp2_with fail
          refine HLE.out.mono ?_
          rintro e w6 ⟨mq, md, rfl, hl6, hb6⟩
          have h6s := hb6.size
          obtain ⟨g, cap, hmq, hown⟩ := hl6
          have hz := HXZ.out.1
          injection hmq with hm1 hm2 hm3
          subst hm1 hm3
          have hgb := hown.lt g rfl
          have hcapd := owns_caps hown
          have hal : (wo.alloc (.cells #[.int .i64 xk, .int .i64 xt, .slice xp xn xc] 55)).heap.size = wo.heap.size + 1 := by simp
          rw [hal] at hgb hb6 h6s
          have HG : Hid (wo.heap.size < w6.heap.size ∧ g < w6.heap.size ∧ wo.heap.size < g) := Lib.hid ⟨by omega, hgb.2, by omega⟩
          have HI6 := Lib.hid (HI0.out.new (O' := fun j => j = wo.heap.size ∨ j = g) (W' := w6) (by rw [hal]; exact hb6) (fun j hj => by
            rcases hj with e | e
            · exact .inl e
            · right; rw [hal, e]; exact ⟨hgb.1, hgb.2⟩))
          have HLT : Hid (∀ V : World, Fr (fun j => ¬ (j = wo.heap.size ∨ j = g)) w6 V → Lent V (wo.heap.size + 1) (.slice (some ⟨g, 0, none⟩) xn md) xz) := Lib.hid (fun V hV => ⟨g, md, by rw [hz], hV.owns (by rw [hal] at hown; exact hown) (fun g' e h => h (.inr (by injection e with e; exact e.symm)))⟩)
          have HOC : Hid (∀ V : World, Fr (fun j => ¬ (j = wo.heap.size ∨ j = g)) w6 V → V.cell? ⟨wo.heap.size, 0, none⟩ = some (.int .i64 xk) ∧ V.cell? ⟨wo.heap.size, 1, none⟩ = some (.int .i64 xt) ∧ V.cell? ⟨wo.heap.size, 2, none⟩ = some (.slice xp xn xc)) := Lib.hid (fun V hV => by
            have h6 := HOB.out w6 hb6
            exact ⟨(hV.cell (p := ⟨wo.heap.size, 0, none⟩) (by show wo.heap.size < _; omega) (fun h => h (.inl rfl))).trans h6.1, (hV.cell (p := ⟨wo.heap.size, 1, none⟩) (by show wo.heap.size < _; omega) (fun h => h (.inl rfl))).trans h6.2.1, (hV.cell (p := ⟨wo.heap.size, 2, none⟩) (by show wo.heap.size < _; omega) (fun h => h (.inl rfl))).trans h6.2.2⟩)
          have hcap1 : xn ≤ md := by omega
          have hcap2 : md ≤ 9223372036854775807 := hcapd.2
          have HC6 := Lib.hid (HOC.out w6 (Fr.refl _ _))
          have d0 := HC6.out.1
          clear hm2 hown hgb hb6 h6s hcapd hal HI0 HLE HOB hz x0 x1 x2 hsz
          go_upto_block 2 with fail
          go_cut [] (fun wx => Hid (FPI w fb rb Wb.heap.size (i + 1) (fun j => j = wo.heap.size ∨ j = g) wx ∧ Fr (fun j => ¬ (j = wo.heap.size ∨ j = g)) w6 wx))
          case first =>
            have HRG := Lib.hid (HLT.out w6 (Fr.refl _ _)).rd
            have HAW : Hid (Away w (fun j => j = wo.heap.size ∨ j = g) xn (some ⟨g, 0, none⟩)) := Lib.hid (fun b o e _ => .inl (.inr (by injection e with e; injection e with e _; exact e.symm)))
            have HAX : Hid (Away w (fun j => j = wo.heap.size ∨ j = g) xn xp) := Lib.hid (fun b o e h0 => by
              obtain ⟨b', o', e', hb', _⟩ := HXZ.out.2 h0
              rw [e] at e'
              injection e' with e'
              injection e' with e' _
              exact .inr (by omega))
            have HKP : Hid (∀ V, Fr (fun j => ¬ (j = wo.heap.size ∨ j = g)) w6 V → Below w.heap.size w V → RdI V V.heap.size xp xn xz) := Lib.hid (fun V _ hb => (HXZ.out.below hb).more hb.size)
            have hn60 : xn ≤ 60 := by omega
            have hi150 : i < 150 := by omega
            by_cases hk1 : xk = 1
            · subst hk1
              have HC := Lib.hid (fp_take HI6.out (by omega))
              clear HRG HAW HAX HKP
              go_wp2_with fail
              with_reducible refine HC.out.mono ?_
              rintro e w7 ⟨v, ok, rfl, hr⟩
              have HR := Lib.hid hr
              clear hr HC
              go_wp2_with fail
              with_reducible refine HR.out.mono ?_
              rintro e w8 ⟨rfl, hI, hF⟩
              have HN : Hid (FPI w fb rb Wb.heap.size (i + 1) (fun j => j = wo.heap.size ∨ j = g) w8 ∧ Fr (fun j => ¬ (j = wo.heap.size ∨ j = g)) w6 w8) := Lib.hid ⟨hI.more (by omega), hF⟩
              clear hI hF HR
              cases ok
              all_goals
                go_wp2
                go_meet
                case rel => exact HN
            · have q1 : (xk == 1) = false := by rw [beq_eq_false_iff_ne]; exact hk1
              clear hk1
              by_cases hk2 : xk = 2
              · subst hk2
                have HC := Lib.hid (fp_give (c := md) (c2 := xc) (t := xt) HI6.out hi150 hn60 HRG.out HAW.out HAX.out HKP.out)
                clear HRG HAW HAX HKP
                have d1 := HC6.out.2.1
                go_wp2_with fail
                with_reducible refine HC.out.mono ?_
                rintro e w7 ⟨rfl, hF, hB, hr⟩
                have HR := Lib.hid hr
                obtain ⟨_, d1, d2⟩ := HOC.out w7 hF
                clear hr HC hF hB
                go_wp2_with fail
                with_reducible refine HR.out.mono ?_
                rintro e w8 ⟨rfl, hI, hF⟩
                have HN : Hid (FPI w fb rb Wb.heap.size (i + 1) (fun j => j = wo.heap.size ∨ j = g) w8 ∧ Fr (fun j => ¬ (j = wo.heap.size ∨ j = g)) w6 w8) := Lib.hid ⟨hI, hF⟩
                clear hI hF HR d1 d2
                go_wp2
                go_meet
                case rel => exact HN
              · have q2 : (xk == 2) = false := by rw [beq_eq_false_iff_ne]; exact hk2
                clear hk2
                by_cases hk3 : xk = 3
                · subst hk3
                  have HC := Lib.hid (fp_back (c := md) (c2 := xc) HI6.out hi150 hn60 HRG.out HAW.out HAX.out HKP.out)
                  clear HRG HAW HAX HKP
                  go_wp2_with fail
                  with_reducible refine HC.out.mono ?_
                  rintro e w7 ⟨rfl, hF, hB, hr⟩
                  have HR := Lib.hid hr
                  obtain ⟨_, _, d2⟩ := HOC.out w7 hF
                  clear hr HC hF hB
                  go_wp2_with fail
                  with_reducible refine HR.out.mono ?_
                  rintro e w8 ⟨rfl, hI, hF⟩
                  have HN : Hid (FPI w fb rb Wb.heap.size (i + 1) (fun j => j = wo.heap.size ∨ j = g) w8 ∧ Fr (fun j => ¬ (j = wo.heap.size ∨ j = g)) w6 w8) := Lib.hid ⟨hI, hF⟩
                  clear hI hF HR d2
                  go_wp2
                  go_meet
                  case rel => exact HN
                · have q3 : (xk == 3) = false := by rw [beq_eq_false_iff_ne]; exact hk3
                  clear hk3 HRG HAW HAX HKP
                  by_cases hk4 : xk = 4
                  · subst hk4
                    have d1 := HC6.out.2.1
                    have HC := Lib.hid (fp_pin xt HTW.out HI6.out hi150)
                    go_wp2_with fail
                    with_reducible refine HC.out.mono ?_
                    rintro e w7 ⟨rfl, hF, hB, pq, pn, pc, R, hcell, hput, hset⟩
                    have HB7 := Lib.hid hB
                    have HF7 := Lib.hid hF
                    have HPUT := Lib.hid hput
                    have HSET := Lib.hid hset
                    have HQF := Lib.hid hcell
                    have HBd : Hid (Below w7.heap.size w7 w7.drew) := Lib.hid (((Fr.refl (fun _ => False) w7).drew).below (Nat.le_refl _) (fun _ h => h.elim))
                    have hl1 : wo.heap.size < w7.heap.size := Nat.lt_of_lt_of_le HG.out.1 hF.size
                    have y1 : ∀ q : Later w7, q.1.cell? ⟨wo.heap.size, 1, none⟩ = some (.int .i64 xt) := fun q => (q.2.cell (p := ⟨wo.heap.size, 1, none⟩) hl1).trans (HOC.out w7 HF7.out).2.1
                    have y2 : ∀ q : Later w7, q.1.cell? ⟨rb, 2, none⟩ = some (.slice pq pn pc) := fun q => (HQF.out q.1 q.2).1
                    clear HC hF hB hcell hput hset d1
                    go_wp2_with fail
                    refine Mix.region_mix (n := 10) (m := 4) (fun V => ∃ q : Later w7, V = q.1) [0, 1, 2, 3, 4, 5, 6] (by kernel_rfl) rfl rfl (by kernel_rfl) (by kernel_rfl) ⟨⟨w7.drew, HBd.out⟩, rfl⟩ ?_
                    repeat (refine Mix.picks_step rfl ?_; go_big_quiet_step (fail))
                    refine Mix.picks_nil ?_
                    intro inv
                    refine sink_one (i := 7) (by kernel_rfl) rfl (by omega) inv (fun K hK => ?_)
                    have HKK := Lib.hid hK
                    clear hK
                    go_simp
                    go_at_call 17
                    with_reducible refine (HPUT.out _ HBd.out).mono ?_
                    rintro e w8 ⟨u8, rfl, ho, hb8⟩
                    obtain ⟨p8, c8, hu8⟩ := owns_slice ho
                    subst hu8
                    have HB8 : Hid (Below w7.heap.size w7 w8) := Lib.hid (HBd.out.trans hb8)
                    have HN8 := Lib.hid (HSET.out w8 _ HB8.out ho)
                    clear ho hb8
                    refine HKK.out _ _ ⟨⟨_, HB8.out⟩, rfl⟩ ?_
                    clear HKK inv
                    intro hS inv
                    (try simp only [Act.put]); (try simp only [List.setIfInBounds_toArray]); (try simp only [List.set_cons_succ]); (try simp only [List.set_cons_zero])
                    refine sink_one (i := 8) (by kernel_rfl) rfl (by omega) inv (fun K hK => ?_)
                    have HKK := Lib.hid hK
                    clear hK
                    go_simp
                    refine HKK.out _ _ ⟨⟨_, HB8.out⟩, rfl⟩ ?_
                    clear HKK inv
                    intro hS inv
                    (try simp only [Act.put]); (try simp only [List.setIfInBounds_toArray]); (try simp only [List.set_cons_succ]); (try simp only [List.set_cons_zero])
                    refine sink_one (i := 9) (by kernel_rfl) rfl (by omega) inv (fun K hK => ?_)
                    have HKK := Lib.hid hK
                    clear hK
                    go_simp
                    refine HKK.out _ _ ⟨⟨_, HB8.out⟩, rfl⟩ ?_
                    clear HKK inv
                    intro hS inv
                    (try simp only [Act.put]); (try simp only [List.setIfInBounds_toArray]); (try simp only [List.set_cons_succ]); (try simp only [List.set_cons_zero])
                    refine sink_last (by kernel_rfl) rfl (by kernel_rfl) (fun K hK => ?_)
                    have HKK := Lib.hid hK
                    clear hK
                    have cq := (HQF.out w8 HB8.out).1
                    have fq := (HQF.out w8 HB8.out).2
                    go_simp
                    refine HKK.out _ _ ⟨rfl, ?_⟩
                    have HN : Hid (FPI w fb rb Wb.heap.size (i + 1) (fun j => j = wo.heap.size ∨ j = g) (w8.setCell ⟨rb, 2, none⟩ (.slice p8 (pn + 1) c8)) ∧ Fr (fun j => ¬ (j = wo.heap.size ∨ j = g)) w6 (w8.setCell ⟨rb, 2, none⟩ (.slice p8 (pn + 1) c8))) := Lib.hid HN8.out
                    clear HKK inv hS cq fq y1 y2 HN8
                    go_wp2
                    go_meet
                    case rel => exact HN
                  · have q4 : (xk == 4) = false := by rw [beq_eq_false_iff_ne]; exact hk4
                    clear hk4
                    by_cases hk5 : xk = 5
                    · subst hk5
                      have hd0 : Fr (fun j => ¬ (j = wo.heap.size ∨ j = g)) w6 w6.drew := (Fr.refl _ w6).drew
                      have HD0 := Lib.hid hd0
                      have HC := Lib.hid (fp_unpin xt HTW.out (HI6.out.new (W' := w6.drew) (((Fr.refl (fun _ => False) w6).drew).below (Nat.le_refl _) (fun _ h => h.elim)) (fun j hj => .inl hj)) hi150)
                      have y1 : ∀ q : KeptF (fun j => ¬ (j = wo.heap.size ∨ j = g)) w6, q.1.cell? ⟨wo.heap.size, 1, none⟩ = some (.int .i64 xt) := fun q => (HOC.out q.1 q.2).2.1
                      clear hd0
                      go_wp2_with fail
                      refine Mix.region_mix (n := 8) (m := 3) (fun V => ∃ q : KeptF (fun j => ¬ (j = wo.heap.size ∨ j = g)) w6, V = q.1) [0, 1, 2, 4, 5, 6] (by kernel_rfl) rfl rfl (by kernel_rfl) (by kernel_rfl) ⟨⟨w6.drew, HD0.out⟩, rfl⟩ ?_
                      repeat (refine Mix.picks_step rfl ?_; go_big_quiet_step (fail))
                      refine Mix.picks_nil ?_
                      intro inv
                      refine sink_one (i := 3) (by kernel_rfl) rfl (by omega) inv (fun K hK => ?_)
                      have HKK := Lib.hid hK
                      clear hK
                      go_simp
                      go_at_call 18
                      with_reducible refine HC.out.mono ?_
                      rintro e w7 ⟨ok, rfl, hF, hr⟩
                      have HR := Lib.hid hr
                      have HF7 : Hid (Fr (fun j => ¬ (j = wo.heap.size ∨ j = g)) w6 w7) := Lib.hid (Fr.trans HD0.out hF (fun _ h _ => h))
                      clear hr hF HC
                      refine HKK.out _ _ ⟨⟨_, HF7.out⟩, rfl⟩ ?_
                      clear HKK inv
                      intro hS inv
                      (try simp only [Act.put]); (try simp only [List.setIfInBounds_toArray]); (try simp only [List.set_cons_succ]); (try simp only [List.set_cons_zero])
                      refine sink_one (i := 7) (by kernel_rfl) rfl (by omega) inv (fun K hK => ?_)
                      have HKK := Lib.hid hK
                      clear hK
                      go_simp
                      go_at_call 19
                      with_reducible refine HR.out.mono ?_
                      rintro e w8 ⟨rfl, hI, hF⟩
                      have HF8 : Hid (Fr (fun j => ¬ (j = wo.heap.size ∨ j = g)) w6 w8) := Lib.hid (Fr.trans HD0.out hF (fun _ h _ => h))
                      have HN : Hid (FPI w fb rb Wb.heap.size (i + 1) (fun j => j = wo.heap.size ∨ j = g) w8 ∧ Fr (fun j => ¬ (j = wo.heap.size ∨ j = g)) w6 w8) := Lib.hid ⟨hI, HF8.out⟩
                      clear hI hF HR
                      refine HKK.out _ _ ⟨⟨_, HF8.out⟩, rfl⟩ ?_
                      clear HKK inv
                      intro hS inv
                      (try simp only [Act.put]); (try simp only [List.setIfInBounds_toArray]); (try simp only [List.set_cons_succ]); (try simp only [List.set_cons_zero])
                      refine sink_last (by kernel_rfl) rfl (by kernel_rfl) (fun K hK => ?_)
                      have HKK := Lib.hid hK
                      clear hK
                      go_simp
                      refine HKK.out _ _ ⟨rfl, ?_⟩
                      clear HKK inv hS y1
                      cases ok
                      all_goals
                        go_wp2
                        go_meet
                        case rel => exact HN
                    · have q5 : (xk == 5) = false := by rw [beq_eq_false_iff_ne]; exact hk5
                      clear hk5
                      have HC := Lib.hid (fp_release HI6.out hi150)
                      go_wp2_with fail
                      with_reducible refine HC.out.mono ?_
                      rintro e w7 ⟨r, rfl, hF, hr⟩
                      have HR := Lib.hid hr
                      clear hr HC hF
                      go_wp2_with fail
                      with_reducible refine HR.out.mono ?_
                      rintro e w8 ⟨rfl, hI, hF⟩
                      have HN : Hid (FPI w fb rb Wb.heap.size (i + 1) (fun j => j = wo.heap.size ∨ j = g) w8 ∧ Fr (fun j => ¬ (j = wo.heap.size ∨ j = g)) w6 w8) := Lib.hid ⟨hI, hF⟩
                      clear hI hF HR
                      go_wp2
                      go_meet
                      case rel => exact HN
          case rest =>
            obtain ⟨W8, hW8⟩ : ∃ W8, W8 = wc := ⟨_, rfl⟩
            subst hW8
            obtain ⟨l8, ws8, hJ8⟩ := hcut.out.1.shown
            have HF8 := Lib.hid hcut.out.2
            have HJ8 := Lib.hid hJ8
            have HLS := Lib.hid (fj_list HJ8.out)
            have hi150 : i + 1 ≤ 150 := by omega
            have hlen := hJ8.len
            have hbb := hJ8.bbl
            have h68 := HF8.out.size
            clear hJ8 hcut d0 HC6
            go_wp2_with fail
            with_reducible refine HLS.out.mono ?_
            rintro e w9 ⟨u, rfl, ho, hb9⟩
            obtain ⟨ap, ac, hu⟩ := owns_slice ho
            subst hu
            have HO9 := Lib.hid ho
            have HB9 := Lib.hid hb9
            have HJ9 := Lib.hid (HJ8.out.new (O' := fun j => (j = wo.heap.size ∨ j = g) ∨ (Value.slice ap l8.length ac).ownBlock = some j) hb9 (fun j hj => by
              rcases hj with e | e
              · exact .inl e
              · exact .inr (ho.lt j e)))
            have HAL := Lib.hid (fj_all HJ9.out hi150)
            have h89 := hb9.size
            clear ho hb9 HLS
            go_wp2_with fail
            with_reducible refine HAL.out.mono ?_
            rintro e w10 ⟨u, rfl, ho, hb10⟩
            obtain ⟨bp, bc, hu⟩ := owns_slice ho
            subst hu
            have HO10 := Lib.hid ho
            have HA10 := Lib.hid ((Fr.of_all (S := fun _ => False) hb10).owns HO9.out (fun _ _ h => h))
            have HB10 := Lib.hid hb10
            have h910 := hb10.size
            have HJ10 := Lib.hid (HJ9.out.new (O' := fun j => ((j = wo.heap.size ∨ j = g) ∨ (Value.slice ap l8.length ac).ownBlock = some j) ∨ (Value.slice bp (l8.length + ws8.length) bc).ownBlock = some j) hb10 (fun j hj => by
              rcases hj with e | e
              · exact .inl e
              · exact .inr (ho.lt j e)))
            have hl10 : l8.length ≤ 10000 ∧ l8.length + ws8.length ≤ 10000 := by omega
            have HKA := Lib.hid (fj_keep HJ10.out HA10.out (CL.srt_perm l8).length_eq hl10.1 (fun j e => .inl (.inr e)) (Nat.le_trans hbb.1 (Nat.le_of_lt hbb.2)) hbb.2)
            clear ho hb10 HAL
            go_wp2_with fail
            with_reducible refine HKA.out.mono ?_
            rintro e w11 ⟨rfl, hJ, hF, hoA, hkA⟩
            have HJ11 := Lib.hid hJ
            have HF11 := Lib.hid hF
            have HA11 := Lib.hid hoA
            have HO11 := Lib.hid (hF.owns HO10.out (fun j e h => h (.inr e)))
            have hbA : ∀ j, (Value.slice ap l8.length ac).ownBlock = some j → W8.heap.size ≤ j ∧ j < w9.heap.size := fun j e => HO9.out.lt j e
            have hbB : ∀ j, (Value.slice bp (l8.length + ws8.length) bc).ownBlock = some j → w9.heap.size ≤ j ∧ j < w10.heap.size := fun j e => HO10.out.lt j e
            have HBA := Lib.hid hbA
            have HBBk := Lib.hid hbB
            have HKB := Lib.hid (fj_keep HJ11.out HO11.out ((CL.srt_perm _).length_eq.trans (by simp [pagesOf])) hl10.2 (fun j e => ⟨.inr e, fun e2 => by have := hbA j e2; have := hbB j e; omega⟩) (Nat.le_trans hbb.1 (Nat.le_of_lt (by omega))) (by omega))
            clear hJ hF hoA hkA hbA hbB HKA
            go_wp2_with fail
            with_reducible refine HKB.out.mono ?_
            rintro e w12 ⟨rfl, hJ, hF, hoB, hkB⟩
            have HJ12 := Lib.hid hJ
            have HA12 := Lib.hid (hkB.own _ _ _ _ HA11.out (fun e => by have := HBA.out _ e; omega))
            have HB12 := Lib.hid hoB
            have h1011 := HF11.out.size
            have h1112 := hF.size
            have hgA : ∀ j, (j = wo.heap.size ∨ j = g) → ¬ (Value.slice ap l8.length ac).ownBlock = some j := fun j hj e => by
              have h1 := HBA.out j e
              have h2 := HG.out
              rcases hj with hj | hj <;> omega
            have hgB : ∀ j, (j = wo.heap.size ∨ j = g) → ¬ (Value.slice bp (l8.length + ws8.length) bc).ownBlock = some j := fun j hj e => by
              have h1 := HBBk.out j e
              have h2 := HG.out
              rcases hj with hj | hj <;> omega
            have HF12 : Hid (Fr (fun j => ¬ (j = wo.heap.size ∨ j = g)) w6 w12) := Lib.hid (by
              refine Fr.trans (Fr.trans (Fr.trans (Fr.trans HF8.out (Fr.of_all (S := fun _ => False) HB9.out) (fun _ h => h.elim)) (Fr.of_all (S := fun _ => False) HB10.out) (fun _ h => h.elim)) HF11.out ?_) hF ?_
              · intro j h1 _ h2
                exact h1 (.inl (.inl h2))
              · intro j h1 _ h2
                exact h1 ⟨.inl (.inl h2), hgA j h2⟩)
            obtain ⟨lp, wp, lc, wc, hend⟩ := fj_end HJ12.out hi150
            have HEND := Lib.hid hend
            have HNX : Hid (∀ V, Below w12.heap.size w12 V → FPI w fb rb Wb.heap.size (i + 1) (fun _ => False) V) := Lib.hid (fun V hV => (HJ12.out.new (O' := fun _ => False) hV (fun _ h => h.elim)).hide)
            have hw12 : wo.heap.size < w12.heap.size := by have := HG.out; omega
            have hg12 : g < w12.heap.size := by have := HG.out; omega
            have y0 : ∀ q : Later w12, q.1.cell? ⟨rb, 0, none⟩ = some (.slice lp l8.length lc) := fun q => (HEND.out q.1 q.2).c0
            have y1 : ∀ q : Later w12, q.1.cell? ⟨rb, 1, none⟩ = some (.slice wp ws8.length wc) := fun q => (HEND.out q.1 q.2).c1
            have y2 : ∀ q : Later w12, q.1.cell? ⟨wo.heap.size, 2, none⟩ = some (.slice xp xn xc) := fun q => (q.2.cell (p := ⟨wo.heap.size, 2, none⟩) hw12).trans (HOC.out w12 HF12.out).2.2
            have HS1 : Hid (∀ V, Below w12.heap.size w12 V → Calls Tryz.prog 25 #[.slice ap l8.length ac, .slice lp l8.length lc] V fun e w' => e = .returned (.bool true) ∧ Below V.heap.size V w') := Lib.hid (fun V hV => same_true (RdI.of_own ((Fr.of_all (S := fun _ => False) hV).owns HA12.out (fun _ _ h => h)) (CL.srt_perm l8).length_eq) (HEND.out V hV).rd (by omega))
            have HRB : Hid (∀ V, Below w12.heap.size w12 V → RdI V V.heap.size bp (l8.length + ws8.length) (CL.srt (l8 ++ pagesOf ws8))) := Lib.hid (fun V hV => RdI.of_own ((Fr.of_all (S := fun _ => False) hV).owns HB12.out (fun _ _ h => h)) ((CL.srt_perm _).length_eq.trans (by simp [pagesOf])))
            have HSY : Hid (∀ V, Below w12.heap.size w12 V → Calls Tryz.prog 9 #[.slice (some ⟨g, 0, none⟩) xn md, .slice xp xn xc] V fun e w' => e = .returned (.bool true) ∧ Below V.heap.size V w') := Lib.hid (fun V hV => stays_ints (wo.heap.size + 1) _ xp xn md xn xc xz V ((HLT.out w12 HF12.out).below hV) ((HXZ.out.below (HJ12.out.bel.trans (hV.mono HJ12.out.bel.size))).more (HJ12.out.bel.trans (hV.mono HJ12.out.bel.size)).size) (by omega))
            have HBd : Hid (Below w12.heap.size w12 w12.drew) := Lib.hid (((Fr.refl (fun _ => False) w12).drew).below (Nat.le_refl _) (fun _ h => h.elim))
            have hn1 : ((l8.length : Int) != (l8.length : Int)) = false := by simp
            have hn2 : ((ws8.length : Int) != (ws8.length : Int)) = false := by simp
            clear hJ hF hoB hkB hgA hgB hend HKB
            go_wp2_with fail
            refine Mix.region_mix (n := 40) (m := 36) (fun V => ∃ q : Later w12, V = q.1) [0, 1, 2, 3, 4] (by kernel_rfl) rfl rfl (by kernel_rfl) (by kernel_rfl) ⟨⟨w12.drew, HBd.out⟩, rfl⟩ ?_
            repeat (refine Mix.picks_step rfl ?_; go_big_quiet_step (fail))
            refine Mix.picks_nil ?_
            intro inv
            refine sink_one (i := 5) (by kernel_rfl) rfl (by omega) inv (fun K hK => ?_)
            have HKK := Lib.hid hK
            clear hK
            go_simp
            go_at_call 25
            with_reducible refine (HS1.out _ HBd.out).mono ?_
            rintro e V1 ⟨rfl, hv⟩
            have HV1 : Hid (Below w12.heap.size w12 V1) := Lib.hid (HBd.out.trans hv)
            clear hv
            refine HKK.out _ _ ⟨⟨_, HV1.out⟩, rfl⟩ ?_
            clear HKK inv
            intro hS inv
            (try simp only [Act.put]); (try simp only [List.setIfInBounds_toArray]); (try simp only [List.set_cons_succ]); (try simp only [List.set_cons_zero])
            refine Mix.more [6, 7, 8, 9] (m := 31) rfl (by kernel_rfl) (by kernel_rfl) inv ⟨⟨_, HV1.out⟩, rfl⟩ ?_
            repeat (refine Mix.picks_step rfl ?_; go_big_quiet_step (fail))
            refine Mix.picks_nil ?_
            clear inv
            intro inv
            refine sink_one (i := 10) (by kernel_rfl) rfl (by omega) inv (fun K hK => ?_)
            have HKK := Lib.hid hK
            clear hK
            go_simp
            go_at_call 26
            with_reducible refine (HEND.out _ HV1.out).all.mono ?_
            rintro e V2 ⟨u3, rfl, ho3, hv⟩
            obtain ⟨cp, cc, hu3⟩ := owns_slice ho3
            subst hu3
            have HV2 : Hid (Below w12.heap.size w12 V2) := Lib.hid (HV1.out.trans (hv.mono HV1.out.size))
            have HS2 := Lib.hid (same_true (c := bc) (d := cc) (HRB.out V2 HV2.out) (RdI.of_own ho3 ((CL.srt_perm _).length_eq.trans (by simp [pagesOf]))) (by omega))
            clear hv ho3
            refine HKK.out _ _ ⟨⟨_, HV2.out⟩, rfl⟩ ?_
            clear HKK inv
            intro hS inv
            (try simp only [Act.put]); (try simp only [List.setIfInBounds_toArray]); (try simp only [List.set_cons_succ]); (try simp only [List.set_cons_zero])
            refine sink_one (i := 11) (by kernel_rfl) rfl (by omega) inv (fun K hK => ?_)
            have HKK := Lib.hid hK
            clear hK
            go_simp
            go_at_call 25
            with_reducible refine HS2.out.mono ?_
            rintro e V3 ⟨rfl, hv⟩
            have HV3 : Hid (Below w12.heap.size w12 V3) := Lib.hid (HV2.out.trans (hv.mono HV2.out.size))
            clear hv HS2
            refine HKK.out _ _ ⟨⟨_, HV3.out⟩, rfl⟩ ?_
            clear HKK inv
            intro hS inv
            (try simp only [Act.put]); (try simp only [List.setIfInBounds_toArray]); (try simp only [List.set_cons_succ]); (try simp only [List.set_cons_zero])
            refine Mix.more [12, 13, 14, 15, 17, 18, 19, 20, 21] (m := 20) rfl (by kernel_rfl) (by kernel_rfl) inv ⟨⟨_, HV3.out⟩, rfl⟩ ?_
            repeat (refine Mix.picks_step rfl ?_; go_big_quiet_step (fail))
            refine Mix.picks_nil ?_
            clear inv
            intro inv
            refine sink_one (i := 16) (by kernel_rfl) rfl (by omega) inv (fun K hK => ?_)
            have HKK := Lib.hid hK
            clear hK
            go_simp
            go_at_call 27
            with_reducible refine (HEND.out _ HV3.out).len.mono ?_
            rintro e V4 ⟨rfl, hv⟩
            subst hv
            refine HKK.out _ _ ⟨⟨_, HV3.out⟩, rfl⟩ ?_
            clear HKK inv
            intro hS inv
            (try simp only [Act.put]); (try simp only [List.setIfInBounds_toArray]); (try simp only [List.set_cons_succ]); (try simp only [List.set_cons_zero])
            refine Mix.more [22, 23, 24, 25, 27, 28, 29, 30, 31] (m := 10) rfl (by kernel_rfl) (by kernel_rfl) inv ⟨⟨_, HV3.out⟩, rfl⟩ ?_
            repeat (refine Mix.picks_step rfl ?_; go_big_quiet_step (fail))
            refine Mix.picks_nil ?_
            clear inv
            intro inv
            refine sink_one (i := 26) (by kernel_rfl) rfl (by omega) inv (fun K hK => ?_)
            have HKK := Lib.hid hK
            clear hK
            go_simp
            go_at_call 28
            with_reducible refine (HEND.out _ HV3.out).wait.mono ?_
            rintro e V5 ⟨rfl, hv⟩
            subst hv
            refine HKK.out _ _ ⟨⟨_, HV3.out⟩, rfl⟩ ?_
            clear HKK inv
            intro hS inv
            (try simp only [Act.put]); (try simp only [List.setIfInBounds_toArray]); (try simp only [List.set_cons_succ]); (try simp only [List.set_cons_zero])
            refine Mix.more [32, 33, 34, 35, 36, 37] (m := 3) rfl (by kernel_rfl) (by kernel_rfl) inv ⟨⟨_, HV3.out⟩, rfl⟩ ?_
            repeat (refine Mix.picks_step rfl ?_; go_big_quiet_step (fail))
            refine Mix.picks_nil ?_
            clear inv
            intro inv
            refine sink_one (i := 38) (by kernel_rfl) rfl (by omega) inv (fun K hK => ?_)
            have HKK := Lib.hid hK
            clear hK
            go_simp
            go_at_call 9
            with_reducible refine (HSY.out _ HV3.out).mono ?_
            rintro e V6 ⟨rfl, hv⟩
            have HV6 : Hid (Below w12.heap.size w12 V6) := Lib.hid (HV3.out.trans (hv.mono HV3.out.size))
            clear hv
            refine HKK.out _ _ ⟨⟨_, HV6.out⟩, rfl⟩ ?_
            clear HKK inv
            intro hS inv
            (try simp only [Act.put]); (try simp only [List.setIfInBounds_toArray]); (try simp only [List.set_cons_succ]); (try simp only [List.set_cons_zero])
            refine Mix.more [39] (m := 1) rfl (by kernel_rfl) (by kernel_rfl) inv ⟨⟨_, HV6.out⟩, rfl⟩ ?_
            repeat (refine Mix.picks_step rfl ?_; go_big_quiet_step (fail))
            refine Mix.picks_nil ?_
            clear inv
            intro inv
            refine sink_last (by kernel_rfl) rfl (by kernel_rfl) (fun K hK => ?_)
            have HKK := Lib.hid hK
            clear hK
            go_simp
            refine HKK.out _ _ ⟨rfl, ?_⟩
            have HN := Lib.hid (HNX.out _ HV6.out)
            clear HKK inv hS y0 y1 y2 hn1 hn2
            go_wp2
            go_roundg (m - (i + 1))
            case measure => omega
            case rel => exact ⟨i + 1, rfl, by omega, by go_num, HN⟩
      · obtain ⟨l9, ws9, hJ9⟩ := hI.out.shown
        obtain ⟨N, F, hN, hbk, hbb⟩ := hJ9.last
        have HBK := Lib.hid hbk
        have HB := Lib.hid hI.out.bel
        clear hbk hI hJ9
        go_wp2_with fail
        with_reducible refine (HA.out _).mono ?_
        rintro e w3 ⟨rfl, hb3⟩
        have HB3 : Hid (Below w.heap.size w w3) := Lib.hid (HB.out.trans (hb3.mono HB.out.size))
        have HC := Lib.hid (bookN_apart (HBK.out.below hb3) hN hbb)
        clear hb3
        go_wp2_with fail
        with_reducible refine HC.out.mono ?_
        rintro e w4 ⟨rfl, hb4⟩
        have HB4 : Hid (Below w.heap.size w w4) := Lib.hid (HB3.out.trans hb4)
        clear hb4
        go_wp2
        go_ret
        exact ⟨rfl, HB4.out⟩
end Go.Proofs.YtedcpckocedcoaaGreat
