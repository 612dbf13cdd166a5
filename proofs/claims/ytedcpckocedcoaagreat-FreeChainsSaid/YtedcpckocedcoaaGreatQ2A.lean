/- The Book with lists of texts and of ints: Apart is true. (Printed by gen-apart2.py.) -/
import Derived.Test.YtedcpckocedcoaaGreatQ2
import Derived.Test.YtedcpckocedcoaaGreatBookE
namespace Go.Proofs.YtedcpckocedcoaaGreat
open Go.RowKit

section
variable {w w' : World} {bb base s0 : Nat} {it iv uv : Value} {N M k : Nat} {V X T : Nat → Value} {n m : Nat → Nat} {Z : Nat → Nat → ByteArray} {U : Nat → Nat → Int}
theorem bkI_keepT (h : BkI w bb base iv M X m U) (ht : BkT w bb base it N V n Z) (hF : Fr (kkF N V) w w') : BkI w' bb base iv M X m U :=
  h.keep hF (fun b hb ⟨i, hi, e⟩ => by
    rcases hb with hb | hb | ⟨j, hj, hb⟩
    · exact ht.kb i hi (by rw [e, hb])
    · exact owns_apart h.ri (ht.kk i hi) (by decide) hb e
    · exact owns_apart (h.kk j hj) (ht.kk i hi) (by decide) hb e)
theorem bkT_keepI (h : BkT w bb base it N V n Z) (hi : BkI w bb base iv M X m U) (hF : Fr (kkF M X) w w') : BkT w' bb base it N V n Z :=
  h.keep hF (fun b hb ⟨i, hi', e⟩ => by
    rcases hb with hb | hb | ⟨j, hj, hb⟩
    · exact hi.kb i hi' (by rw [e, hb])
    · exact owns_apart h.ri (hi.kk i hi') (by decide) hb e
    · exact owns_apart (h.kk j hj) (hi.kk i hi') (by decide) hb e)
theorem grT_keepI (h : GrT s0 w bb base it N V n k T uv) (hi : BkI w bb base iv M X m U) (hF : Fr (kkF M X) w w') : GrT s0 w' bb base it N V n k T uv where
  bk := bkT_keepI h.bk hi hF
  ov := hF.owns h.ov (fun g hg ⟨i, hi', e⟩ => owns_apart h.ov (hi.kk i hi') (by decide) hg e)
  uu := fun j hj => hF.owns (h.uu j hj) (fun g hg ⟨i, hi', e⟩ => owns_apart (h.uu j hj) (hi.kk i hi') (by decide) hg e)
  ud := h.ud
  vs := h.vs
  sw := Nat.le_trans h.sw hF.size
/-- The kinds of which nothing is kept. -/
def Nils2 (w : World) (bb : Nat) : Prop := ∀ c, 4 ≤ c → c < 22 → w.cell? ⟨bb, c, none⟩ = some (.slice none 0 0)
theorem Nils2.keep (h : Nils2 w bb) {S : Nat → Prop} (hF : Fr S w w') (hS : ¬ S bb) : Nils2 w' bb := fun c h1 h2 => by
  have e := h c h1 h2
  exact (hF.cell (p := ⟨bb, c, none⟩) (cell_lt e) hS).trans e
end

set_option maxHeartbeats 8000000 in
set_option maxRecDepth 100000 in
theorem apart2 (bb base : Nat) (it wt : Value) (N : Nat) (V W : Nat → Value) (n : Nat → Nat) (Z : Nat → Nat → ByteArray) (iv wv : Value) (M : Nat) (X Y : Nat → Value) (m : Nat → Nat) (U : Nat → Nat → Int) (w : World) (h : Book2 w bb base it wt N V W n Z iv wv M X Y m U) (hN : N ≤ 250) (hM : M ≤ 250) (hn : ∀ i, i < N → n i ≤ 10000) (hm : ∀ i, i < M → m i ≤ 10000) (hb : base ≤ w.heap.size) :
    Calls Tryz.prog 29 #[.pointer (some ⟨bb, 0, none⟩)] w fun e w' => e = .returned (.bool true) ∧ Below base w w' := by
  have H := Lib.hid h
  have HN := Lib.hid hn
  have HM := Lib.hid hm
  have HST := Lib.hid (still_texts bb base it wt N V W n Z w h.t.bk h.t.c3 h.t.wr h.t.ww hN hn)
  have HNL : Hid (Nils2 w bb) := Lib.hid (fun c h1 h2 => h.t.cn c _ (.inr (.inr ⟨h1, h2, rfl⟩)))
  clear h hn hm
  go_enter Tryz.func29, Tryz.ntmps29
  go_wp2_with fail
  refine HST.out.mono ?_
  rintro e w1 ⟨rfl, hb1⟩
  have hfb1 : Fr (fun _ => False) w w1 := Fr.of_all hb1
  have H1 := Lib.hid (H.out.keep hfb1 (fun _ _ h => h))
  have HSI := Lib.hid (still_ints bb base iv wv M X Y m U w1 H1.out.i.bk H1.out.i.c3 H1.out.i.wr H1.out.i.ww hM HM.out)
  have HB1 := Lib.hid (hb1.mono hb)
  have HS1 := Lib.hid (Nat.le_trans hb hb1.size)
  have HL1 := Lib.hid (HNL.out.keep hfb1 (fun h => h))
  clear hb1 hfb1 HST HNL H
  go_wp2_with fail
  refine HSI.out.mono ?_
  rintro e w2 ⟨rfl, hb2⟩
  have hfb2 : Fr (fun _ => False) w1 w2 := Fr.of_all hb2
  have H2 := Lib.hid (H1.out.keep hfb2 (fun _ _ h => h))
  have HB2 : Hid (Below base w w2) := Lib.hid (HB1.out.trans (hb2.mono HS1.out))
  have HS2 := Lib.hid (Nat.le_trans HS1.out hb2.size)
  have HL2 := Lib.hid (HL1.out.keep hfb2 (fun h => h))
  clear hb2 hfb2 HSI HL1 H1
  have c4 : w2.cell? ⟨bb, 4, none⟩ = some (.slice none 0 0) := HL2.out 4 (by omega) (by omega)
  have c6 : w2.cell? ⟨bb, 6, none⟩ = some (.slice none 0 0) := HL2.out 6 (by omega) (by omega)
  have c8 : w2.cell? ⟨bb, 8, none⟩ = some (.slice none 0 0) := HL2.out 8 (by omega) (by omega)
  have c10 : w2.cell? ⟨bb, 10, none⟩ = some (.slice none 0 0) := HL2.out 10 (by omega) (by omega)
  have c12 : w2.cell? ⟨bb, 12, none⟩ = some (.slice none 0 0) := HL2.out 12 (by omega) (by omega)
  have c14 : w2.cell? ⟨bb, 14, none⟩ = some (.slice none 0 0) := HL2.out 14 (by omega) (by omega)
  have c16 : w2.cell? ⟨bb, 16, none⟩ = some (.slice none 0 0) := HL2.out 16 (by omega) (by omega)
  have c18 : w2.cell? ⟨bb, 18, none⟩ = some (.slice none 0 0) := HL2.out 18 (by omega) (by omega)
  have c20 : w2.cell? ⟨bb, 20, none⟩ = some (.slice none 0 0) := HL2.out 20 (by omega) (by omega)
  go_wp2_with fail
  refine (still_Items bb w2 c4).mono ?_
  rintro e w' ⟨rfl, hw'⟩
  subst hw'
  go_wp2_with fail
  refine (still_Children bb w2 c6).mono ?_
  rintro e w' ⟨rfl, hw'⟩
  subst hw'
  go_wp2_with fail
  refine (still_Pairs bb w2 c8).mono ?_
  rintro e w' ⟨rfl, hw'⟩
  subst hw'
  go_wp2_with fail
  refine (still_Entries bb w2 c10).mono ?_
  rintro e w' ⟨rfl, hw'⟩
  subst hw'
  go_wp2_with fail
  refine (still_Msgs bb w2 c12).mono ?_
  rintro e w' ⟨rfl, hw'⟩
  subst hw'
  go_wp2_with fail
  refine (still_Dues bb w2 c14).mono ?_
  rintro e w' ⟨rfl, hw'⟩
  subst hw'
  go_wp2_with fail
  refine (still_Packets bb w2 c16).mono ?_
  rintro e w' ⟨rfl, hw'⟩
  subst hw'
  go_wp2_with fail
  refine (still_Events bb w2 c18).mono ?_
  rintro e w' ⟨rfl, hw'⟩
  subst hw'
  go_wp2_with fail
  refine (still_Steps bb w2 c20).mono ?_
  rintro e w' ⟨rfl, hw'⟩
  subst hw'
  go_wp2_with fail
  refine (put_Msgs bb w2 c12).mono ?_
  rintro e w' ⟨rfl, hw'⟩
  subst hw'
  go_wp2_with fail
  refine (put_Steps bb w2 c20).mono ?_
  rintro e w' ⟨rfl, hw'⟩
  subst hw'
  go_wp2_with fail
  refine (put_texts bb base it N V n Z w2 H2.out.t.bk hN HN.out).mono ?_
  rintro e w3 ⟨rfl, hk3, hf3⟩
  have HT3 := Lib.hid hk3
  have HI3 := Lib.hid (bkI_keepT H2.out.i.bk H2.out.t.bk hf3)
  have HL3 := Lib.hid (HL2.out.keep hf3 (fun ⟨i, hi, e⟩ => H2.out.t.bk.kb i hi e))
  have HB3 : Hid (Below base w w3) := Lib.hid (HB2.out.trans (hf3.below HS2.out (fun b ⟨i, hi, e⟩ => ((H2.out.t.bk.kk i hi).lt b e).1)))
  have HS3 := Lib.hid (Nat.le_trans HS2.out hf3.size)
  clear hk3 hf3 c4 c6 c8 c10 c12 c14 c16 c18 c20 HL2
  go_wp2_with fail
  refine (put_ints bb base iv M X m U w3 HI3.out hM HM.out).mono ?_
  rintro e w4 ⟨rfl, hk4, hf4⟩
  have HI4 := Lib.hid hk4
  have HT4 := Lib.hid (bkT_keepI HT3.out HI3.out hf4)
  have HL4 := Lib.hid (HL3.out.keep hf4 (fun ⟨i, hi, e⟩ => HI3.out.kb i hi e))
  have HB4 : Hid (Below base w w4) := Lib.hid (HB3.out.trans (hf4.below HS3.out (fun b ⟨i, hi, e⟩ => ((HI3.out.kk i hi).lt b e).1)))
  have HS4 := Lib.hid (Nat.le_trans HS3.out hf4.size)
  clear hk4 hf4 HL3
  have d4 : w4.cell? ⟨bb, 4, none⟩ = some (.slice none 0 0) := HL4.out 4 (by omega) (by omega)
  have d6 : w4.cell? ⟨bb, 6, none⟩ = some (.slice none 0 0) := HL4.out 6 (by omega) (by omega)
  have d8 : w4.cell? ⟨bb, 8, none⟩ = some (.slice none 0 0) := HL4.out 8 (by omega) (by omega)
  have d10 : w4.cell? ⟨bb, 10, none⟩ = some (.slice none 0 0) := HL4.out 10 (by omega) (by omega)
  have d12 : w4.cell? ⟨bb, 12, none⟩ = some (.slice none 0 0) := HL4.out 12 (by omega) (by omega)
  have d14 : w4.cell? ⟨bb, 14, none⟩ = some (.slice none 0 0) := HL4.out 14 (by omega) (by omega)
  have d16 : w4.cell? ⟨bb, 16, none⟩ = some (.slice none 0 0) := HL4.out 16 (by omega) (by omega)
  have d18 : w4.cell? ⟨bb, 18, none⟩ = some (.slice none 0 0) := HL4.out 18 (by omega) (by omega)
  have d20 : w4.cell? ⟨bb, 20, none⟩ = some (.slice none 0 0) := HL4.out 20 (by omega) (by omega)
  go_wp2_with fail
  refine (put_Items bb w4 d4).mono ?_
  rintro e w' ⟨rfl, hw'⟩
  subst hw'
  go_wp2_with fail
  refine (put_Children bb w4 d6).mono ?_
  rintro e w' ⟨rfl, hw'⟩
  subst hw'
  go_wp2_with fail
  refine (put_Pairs bb w4 d8).mono ?_
  rintro e w' ⟨rfl, hw'⟩
  subst hw'
  go_wp2_with fail
  refine (put_Entries bb w4 d10).mono ?_
  rintro e w' ⟨rfl, hw'⟩
  subst hw'
  go_wp2_with fail
  refine (put_Dues bb w4 d14).mono ?_
  rintro e w' ⟨rfl, hw'⟩
  subst hw'
  go_wp2_with fail
  refine (put_Packets bb w4 d16).mono ?_
  rintro e w' ⟨rfl, hw'⟩
  subst hw'
  go_wp2_with fail
  refine (put_Events bb w4 d18).mono ?_
  rintro e w' ⟨rfl, hw'⟩
  subst hw'
  go_wp2_with fail
  refine (grow_texts bb base it N V n w4 HT4.out hN HN.out HS4.out).mono ?_
  rintro e w5 ⟨uv, T, rfl, hg5, hf5⟩
  have HT5 := Lib.hid hg5
  have HI5 := Lib.hid (bkI_keepT HI4.out HT4.out hf5)
  have HL5 := Lib.hid (HL4.out.keep hf5 (fun ⟨i, hi, e⟩ => HT4.out.kb i hi e))
  have HB5 : Hid (Below base w w5) := Lib.hid (HB4.out.trans (hf5.below HS4.out (fun b ⟨i, hi, e⟩ => ((HT4.out.kk i hi).lt b e).1)))
  have HS5 := Lib.hid (Nat.le_trans HS4.out hf5.size)
  clear hg5 hf5 d4 d6 d8 d10 d12 d14 d16 d18 d20 HL4
  go_wp2_with fail
  refine (grow_ints bb base iv M X m w5 HI5.out hM HM.out HS5.out).mono ?_
  rintro e w6 ⟨ui, R, rfl, hg6, hf6⟩
  have HI6 := Lib.hid hg6
  have HT6 := Lib.hid (grT_keepI HT5.out HI5.out hf6)
  have HL6 := Lib.hid (HL5.out.keep hf6 (fun ⟨i, hi, e⟩ => HI5.out.kb i hi e))
  have HB6 : Hid (Below base w w6) := Lib.hid (HB5.out.trans (hf6.below HS5.out (fun b ⟨i, hi, e⟩ => ((HI5.out.kk i hi).lt b e).1)))
  have HS6 := Lib.hid (Nat.le_trans HS5.out hf6.size)
  clear hg6 hf6 HL5
  have c4 : w6.cell? ⟨bb, 4, none⟩ = some (.slice none 0 0) := HL6.out 4 (by omega) (by omega)
  have c6 : w6.cell? ⟨bb, 6, none⟩ = some (.slice none 0 0) := HL6.out 6 (by omega) (by omega)
  have c8 : w6.cell? ⟨bb, 8, none⟩ = some (.slice none 0 0) := HL6.out 8 (by omega) (by omega)
  have c10 : w6.cell? ⟨bb, 10, none⟩ = some (.slice none 0 0) := HL6.out 10 (by omega) (by omega)
  have c12 : w6.cell? ⟨bb, 12, none⟩ = some (.slice none 0 0) := HL6.out 12 (by omega) (by omega)
  have c14 : w6.cell? ⟨bb, 14, none⟩ = some (.slice none 0 0) := HL6.out 14 (by omega) (by omega)
  have c16 : w6.cell? ⟨bb, 16, none⟩ = some (.slice none 0 0) := HL6.out 16 (by omega) (by omega)
  have c18 : w6.cell? ⟨bb, 18, none⟩ = some (.slice none 0 0) := HL6.out 18 (by omega) (by omega)
  have c20 : w6.cell? ⟨bb, 20, none⟩ = some (.slice none 0 0) := HL6.out 20 (by omega) (by omega)
  go_wp2_with fail
  refine (grow_Items bb w6 c4).mono ?_
  rintro e w' ⟨rfl, hw'⟩
  subst hw'
  go_wp2_with fail
  refine (grow_Children bb w6 c6).mono ?_
  rintro e w' ⟨rfl, hw'⟩
  subst hw'
  go_wp2_with fail
  refine (grow_Pairs bb w6 c8).mono ?_
  rintro e w' ⟨rfl, hw'⟩
  subst hw'
  go_wp2_with fail
  refine (grow_Entries bb w6 c10).mono ?_
  rintro e w' ⟨rfl, hw'⟩
  subst hw'
  go_wp2_with fail
  refine (grow_Msgs bb w6 c12).mono ?_
  rintro e w' ⟨rfl, hw'⟩
  subst hw'
  go_wp2_with fail
  refine (grow_Dues bb w6 c14).mono ?_
  rintro e w' ⟨rfl, hw'⟩
  subst hw'
  go_wp2_with fail
  refine (grow_Packets bb w6 c16).mono ?_
  rintro e w' ⟨rfl, hw'⟩
  subst hw'
  go_wp2_with fail
  refine (grow_Events bb w6 c18).mono ?_
  rintro e w' ⟨rfl, hw'⟩
  subst hw'
  go_wp2_with fail
  refine (grow_Steps bb w6 c20).mono ?_
  rintro e w' ⟨rfl, hw'⟩
  subst hw'
  go_wp2_with fail
  refine (marked_texts _ base uv N T (fun i => n i + 72) w6 HT6.out.ov HT6.out.uu hN (fun i hi => by have := HN.out i hi; omega)).mono ?_
  rintro e w7 ⟨rfl, hb7⟩
  have hf7 : Fr (fun _ => False) w6 w7 := Fr.of_all hb7
  have HB7 : Hid (Below base w w7) := Lib.hid (HB6.out.trans (hb7.mono HS6.out))
  have HS7 := Lib.hid (Nat.le_trans HS6.out hb7.size)
  have HL7 := Lib.hid (HL6.out.keep hf7 (fun h => h))
  have HT7 := Lib.hid (HT6.out.below hb7)
  have HI7 := Lib.hid (HI6.out.below hb7)
  have x7 := HT7.out.bk.c2
  clear c4 c6 c8 c10 c12 c14 c16 c18 c20
  clear hb7 hf7 HL6 HT6 HI6
  go_wp2_with fail
  refine (marked_texts base base it N V n w7 HT7.out.bk.ri HT7.out.bk.kk hN (fun i hi => by have := HN.out i hi; omega)).mono ?_
  rintro e w8 ⟨rfl, hb8⟩
  have hf8 : Fr (fun _ => False) w7 w8 := Fr.of_all hb8
  have HB8 : Hid (Below base w w8) := Lib.hid (HB7.out.trans (hb8.mono HS7.out))
  have HS8 := Lib.hid (Nat.le_trans HS7.out hb8.size)
  have HL8 := Lib.hid (HL7.out.keep hf8 (fun h => h))
  have HT8 := Lib.hid (HT7.out.below hb8)
  have HI8 := Lib.hid (HI7.out.below hb8)
  clear x7
  clear hb8 hf8 HL7 HT7 HI7
  go_wp2_with fail
  refine (marked_ints _ base ui M R (fun i => m i + 72) w8 HI8.out.ov HI8.out.uu hM (fun i hi => by have := HM.out i hi; omega)).mono ?_
  rintro e w9 ⟨rfl, hb9⟩
  have hf9 : Fr (fun _ => False) w8 w9 := Fr.of_all hb9
  have HB9 : Hid (Below base w w9) := Lib.hid (HB8.out.trans (hb9.mono HS8.out))
  have HS9 := Lib.hid (Nat.le_trans HS8.out hb9.size)
  have HL9 := Lib.hid (HL8.out.keep hf9 (fun h => h))
  have HT9 := Lib.hid (HT8.out.below hb9)
  have HI9 := Lib.hid (HI8.out.below hb9)
  have x9 := HI9.out.bk.c2
  clear hb9 hf9 HL8 HT8 HI8
  go_wp2_with fail
  refine (marked_ints base base iv M X m w9 HI9.out.bk.ri HI9.out.bk.kk hM (fun i hi => by have := HM.out i hi; omega)).mono ?_
  rintro e w10 ⟨rfl, hb10⟩
  have hf10 : Fr (fun _ => False) w9 w10 := Fr.of_all hb10
  have HB10 : Hid (Below base w w10) := Lib.hid (HB9.out.trans (hb10.mono HS9.out))
  have HS10 := Lib.hid (Nat.le_trans HS9.out hb10.size)
  have HL10 := Lib.hid (HL9.out.keep hf10 (fun h => h))
  have HT10 := Lib.hid (HT9.out.below hb10)
  have HI10 := Lib.hid (HI9.out.below hb10)
  clear x9
  clear hb10 hf10 HL9 HT9 HI9
  have d4 : w10.cell? ⟨bb, 4, none⟩ = some (.slice none 0 0) := HL10.out 4 (by omega) (by omega)
  have d6 : w10.cell? ⟨bb, 6, none⟩ = some (.slice none 0 0) := HL10.out 6 (by omega) (by omega)
  have d8 : w10.cell? ⟨bb, 8, none⟩ = some (.slice none 0 0) := HL10.out 8 (by omega) (by omega)
  have d10 : w10.cell? ⟨bb, 10, none⟩ = some (.slice none 0 0) := HL10.out 10 (by omega) (by omega)
  have d12 : w10.cell? ⟨bb, 12, none⟩ = some (.slice none 0 0) := HL10.out 12 (by omega) (by omega)
  have d14 : w10.cell? ⟨bb, 14, none⟩ = some (.slice none 0 0) := HL10.out 14 (by omega) (by omega)
  have d16 : w10.cell? ⟨bb, 16, none⟩ = some (.slice none 0 0) := HL10.out 16 (by omega) (by omega)
  have d18 : w10.cell? ⟨bb, 18, none⟩ = some (.slice none 0 0) := HL10.out 18 (by omega) (by omega)
  have d20 : w10.cell? ⟨bb, 20, none⟩ = some (.slice none 0 0) := HL10.out 20 (by omega) (by omega)
  go_wp2_with fail
  refine (marked_Items w10).mono ?_
  rintro e w' ⟨rfl, hw'⟩
  subst hw'
  go_wp2_with fail
  refine (marked_Items w10).mono ?_
  rintro e w' ⟨rfl, hw'⟩
  subst hw'
  go_wp2_with fail
  refine (marked_Children w10).mono ?_
  rintro e w' ⟨rfl, hw'⟩
  subst hw'
  go_wp2_with fail
  refine (marked_Children w10).mono ?_
  rintro e w' ⟨rfl, hw'⟩
  subst hw'
  go_wp2_with fail
  refine (marked_Pairs w10).mono ?_
  rintro e w' ⟨rfl, hw'⟩
  subst hw'
  go_wp2_with fail
  refine (marked_Pairs w10).mono ?_
  rintro e w' ⟨rfl, hw'⟩
  subst hw'
  go_wp2_with fail
  refine (marked_Entries w10).mono ?_
  rintro e w' ⟨rfl, hw'⟩
  subst hw'
  go_wp2_with fail
  refine (marked_Entries w10).mono ?_
  rintro e w' ⟨rfl, hw'⟩
  subst hw'
  go_wp2_with fail
  refine (marked_Msgs w10).mono ?_
  rintro e w' ⟨rfl, hw'⟩
  subst hw'
  go_wp2_with fail
  refine (marked_Msgs w10).mono ?_
  rintro e w' ⟨rfl, hw'⟩
  subst hw'
  go_wp2_with fail
  refine (marked_Dues w10).mono ?_
  rintro e w' ⟨rfl, hw'⟩
  subst hw'
  go_wp2_with fail
  refine (marked_Dues w10).mono ?_
  rintro e w' ⟨rfl, hw'⟩
  subst hw'
  go_wp2_with fail
  refine (marked_Packets w10).mono ?_
  rintro e w' ⟨rfl, hw'⟩
  subst hw'
  go_wp2_with fail
  refine (marked_Packets w10).mono ?_
  rintro e w' ⟨rfl, hw'⟩
  subst hw'
  go_wp2_with fail
  refine (marked_Events w10).mono ?_
  rintro e w' ⟨rfl, hw'⟩
  subst hw'
  go_wp2_with fail
  refine (marked_Events w10).mono ?_
  rintro e w' ⟨rfl, hw'⟩
  subst hw'
  go_wp2_with fail
  refine (marked_Steps w10).mono ?_
  rintro e w' ⟨rfl, hw'⟩
  subst hw'
  go_wp2_with fail
  refine (marked_Steps w10).mono ?_
  rintro e w' ⟨rfl, hw'⟩
  subst hw'
  go_wp2
  go_ret
  exact ⟨rfl, HB10.out⟩

theorem bookN2_apart {w : World} {bb base N M : Nat} {F : Nat → Prop} (h : BookN2 w bb base N M F) (hN : N ≤ 250) (hM : M ≤ 250) (hbb : base ≤ bb) :
    Calls Tryz.prog 29 #[.pointer (some ⟨bb, 0, none⟩)] w fun e w' => e = .returned (.bool true) ∧ Below base w w' := by
  obtain ⟨it, wt, V, W, n, Z, iv, wv, X, Y, m, U, hb, h1, h2, h3, h4⟩ := h
  have hbs : base ≤ w.heap.size := by have : bb < w.heap.size := cell_lt hb.i.bk.c2; omega
  exact apart2 bb base it wt N V W n Z iv wv M X Y m U w hb hN hM h3 h4 hbs
end Go.Proofs.YtedcpckocedcoaaGreat
