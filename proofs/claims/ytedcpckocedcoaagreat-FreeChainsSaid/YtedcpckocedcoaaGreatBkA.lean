/- The Book with lists of ints alone: Apart is true. (Printed by gen-apart.py.) -/
import Derived.Test.YtedcpckocedcoaaGreatBkG
import Derived.Test.YtedcpckocedcoaaGreatBookE
namespace Go.Proofs.YtedcpckocedcoaaGreat
open Go.RowKit

/-- The kinds of which nothing is kept. -/
def NilsAt (w : World) (bb : Nat) : Prop := ∀ c, c < 22 → c ≠ 2 → c ≠ 3 → w.cell? ⟨bb, c, none⟩ = some (.slice none 0 0)

structure BookI (w : World) (bb base : Nat) (iv wv : Value) (N : Nat) (V W : Nat → Value) (n : Nat → Nat) (Z : Nat → Nat → Int) : Prop where
  bk : BkI w bb base iv N V n Z
  c3 : w.cell? ⟨bb, 3, none⟩ = some wv
  wr : w.ownsRow base 22 1 wv N ((List.range N).map W)
  ww : ∀ i, i < N → w.ownsRow base 3 1 (W i) (n i) (rowOf ncells (lst (n i) (Z i)))
  cn : NilsAt w bb
  f2 : w.frozen? ⟨bb, 2, none⟩ = false
  f3 : w.frozen? ⟨bb, 3, none⟩ = false
  wb : wv.ownBlock ≠ some bb
  iw : ∀ g, iv.ownBlock = some g → wv.ownBlock ≠ some g
  wk : ∀ i, i < N → (W i).ownBlock ≠ some bb

/-- All its blocks. -/
def bookF (bb : Nat) (iv wv : Value) (N : Nat) (V W : Nat → Value) (b : Nat) : Prop := bkF bb iv N V b ∨ wv.ownBlock = some b ∨ ∃ i, i < N ∧ (W i).ownBlock = some b

section
variable {w w' : World} {bb base : Nat} {iv wv : Value} {N : Nat} {V W : Nat → Value} {n : Nat → Nat} {Z : Nat → Nat → Int}

theorem NilsAt.keep (h : NilsAt w bb) {S : Nat → Prop} (hF : Fr S w w') (hS : ¬ S bb) : NilsAt w' bb := fun c h1 h2 h3 => by
  have e := h c h1 h2 h3
  exact (hF.cell (p := ⟨bb, c, none⟩) (cell_lt e) hS).trans e

theorem BookI.keep (h : BookI w bb base iv wv N V W n Z) {S : Nat → Prop} (hF : Fr S w w') (hS : ∀ b, bookF bb iv wv N V W b → ¬ S b) : BookI w' bb base iv wv N V W n Z where
  bk := h.bk.keep hF (fun b hb => hS b (.inl hb))
  c3 := (hF.cell (p := ⟨bb, 3, none⟩) (cell_lt h.c3) (hS _ (.inl (.inl rfl)))).trans h.c3
  wr := hF.owns h.wr (fun _ hg => hS _ (.inr (.inl hg)))
  ww := fun i hi => hF.owns (h.ww i hi) (fun _ hg => hS _ (.inr (.inr ⟨i, hi, hg⟩)))
  cn := h.cn.keep hF (hS _ (.inl (.inl rfl)))
  f2 := (hF.frozen (p := ⟨bb, 2, none⟩) (cell_lt h.bk.c2) (hS _ (.inl (.inl rfl)))).trans h.f2
  f3 := (hF.frozen (p := ⟨bb, 3, none⟩) (cell_lt h.c3) (hS _ (.inl (.inl rfl)))).trans h.f3
  wb := h.wb
  iw := h.iw
  wk := h.wk

theorem BookI.below (h : BookI w bb base iv wv N V W n Z) (hF : Below w.heap.size w w') : BookI w' bb base iv wv N V W n Z :=
  h.keep (S := fun _ => False) (Fr.of_all hF) (fun _ _ h => h)

theorem BookI.lt (h : BookI w bb base iv wv N V W n Z) : ∀ b, bookF bb iv wv N V W b → b < w.heap.size := by
  rintro b (hb | hb | ⟨i, hi, hb⟩)
  · exact h.bk.lt b hb
  · exact (h.wr.lt _ hb).2
  · exact ((h.ww i hi).lt _ hb).2
end

set_option maxHeartbeats 8000000 in
set_option maxRecDepth 100000 in
theorem apart_ints (bb base : Nat) (iv wv : Value) (N : Nat) (V W : Nat → Value) (n : Nat → Nat) (Z : Nat → Nat → Int) (w : World) (h : BookI w bb base iv wv N V W n Z) (hN : N ≤ 250) (hn : ∀ i, i < N → n i ≤ 10000) (hb : base ≤ w.heap.size) :
    Calls Tryz.prog 29 #[.pointer (some ⟨bb, 0, none⟩)] w fun e w' => e = .returned (.bool true) ∧ Below base w w' := by
  have H := Lib.hid h
  have HN := Lib.hid hn
  have HSTILL := Lib.hid (still_ints bb base iv wv N V W n Z w h.bk h.c3 h.wr h.ww hN hn)

  have c0 : w.cell? ⟨bb, 0, none⟩ = some (.slice none 0 0) := h.cn 0 (by omega) (by omega) (by omega)
  have c4 : w.cell? ⟨bb, 4, none⟩ = some (.slice none 0 0) := h.cn 4 (by omega) (by omega) (by omega)
  have c6 : w.cell? ⟨bb, 6, none⟩ = some (.slice none 0 0) := h.cn 6 (by omega) (by omega) (by omega)
  have c8 : w.cell? ⟨bb, 8, none⟩ = some (.slice none 0 0) := h.cn 8 (by omega) (by omega) (by omega)
  have c10 : w.cell? ⟨bb, 10, none⟩ = some (.slice none 0 0) := h.cn 10 (by omega) (by omega) (by omega)
  have c12 : w.cell? ⟨bb, 12, none⟩ = some (.slice none 0 0) := h.cn 12 (by omega) (by omega) (by omega)
  have c14 : w.cell? ⟨bb, 14, none⟩ = some (.slice none 0 0) := h.cn 14 (by omega) (by omega) (by omega)
  have c16 : w.cell? ⟨bb, 16, none⟩ = some (.slice none 0 0) := h.cn 16 (by omega) (by omega) (by omega)
  have c18 : w.cell? ⟨bb, 18, none⟩ = some (.slice none 0 0) := h.cn 18 (by omega) (by omega) (by omega)
  have c20 : w.cell? ⟨bb, 20, none⟩ = some (.slice none 0 0) := h.cn 20 (by omega) (by omega) (by omega)
  clear h hn
  go_enter Tryz.func29, Tryz.ntmps29
  go_wp2_with fail
  refine (still_Texts bb w c0).mono ?_
  rintro e w' ⟨rfl, hw'⟩
  subst hw'
  go_wp2_with fail
  refine HSTILL.out.mono ?_
  rintro e w1 ⟨rfl, hb1⟩
  have H1 := Lib.hid (H.out.below hb1)
  have HB1 := Lib.hid (hb1.mono hb)
  have HS1 := Lib.hid (Nat.le_trans hb hb1.size)
  clear hb1 HSTILL c0 c4 c6 c8 c10 c12 c14 c16 c18 c20
  have d0 : w1.cell? ⟨bb, 0, none⟩ = some (.slice none 0 0) := H1.out.cn 0 (by omega) (by omega) (by omega)
  have d4 : w1.cell? ⟨bb, 4, none⟩ = some (.slice none 0 0) := H1.out.cn 4 (by omega) (by omega) (by omega)
  have d6 : w1.cell? ⟨bb, 6, none⟩ = some (.slice none 0 0) := H1.out.cn 6 (by omega) (by omega) (by omega)
  have d8 : w1.cell? ⟨bb, 8, none⟩ = some (.slice none 0 0) := H1.out.cn 8 (by omega) (by omega) (by omega)
  have d10 : w1.cell? ⟨bb, 10, none⟩ = some (.slice none 0 0) := H1.out.cn 10 (by omega) (by omega) (by omega)
  have d12 : w1.cell? ⟨bb, 12, none⟩ = some (.slice none 0 0) := H1.out.cn 12 (by omega) (by omega) (by omega)
  have d14 : w1.cell? ⟨bb, 14, none⟩ = some (.slice none 0 0) := H1.out.cn 14 (by omega) (by omega) (by omega)
  have d16 : w1.cell? ⟨bb, 16, none⟩ = some (.slice none 0 0) := H1.out.cn 16 (by omega) (by omega) (by omega)
  have d18 : w1.cell? ⟨bb, 18, none⟩ = some (.slice none 0 0) := H1.out.cn 18 (by omega) (by omega) (by omega)
  have d20 : w1.cell? ⟨bb, 20, none⟩ = some (.slice none 0 0) := H1.out.cn 20 (by omega) (by omega) (by omega)
  go_wp2_with fail
  refine (still_Items bb w1 d4).mono ?_
  rintro e w' ⟨rfl, hw'⟩
  subst hw'
  go_wp2_with fail
  refine (still_Children bb w1 d6).mono ?_
  rintro e w' ⟨rfl, hw'⟩
  subst hw'
  go_wp2_with fail
  refine (still_Pairs bb w1 d8).mono ?_
  rintro e w' ⟨rfl, hw'⟩
  subst hw'
  go_wp2_with fail
  refine (still_Entries bb w1 d10).mono ?_
  rintro e w' ⟨rfl, hw'⟩
  subst hw'
  go_wp2_with fail
  refine (still_Msgs bb w1 d12).mono ?_
  rintro e w' ⟨rfl, hw'⟩
  subst hw'
  go_wp2_with fail
  refine (still_Dues bb w1 d14).mono ?_
  rintro e w' ⟨rfl, hw'⟩
  subst hw'
  go_wp2_with fail
  refine (still_Packets bb w1 d16).mono ?_
  rintro e w' ⟨rfl, hw'⟩
  subst hw'
  go_wp2_with fail
  refine (still_Events bb w1 d18).mono ?_
  rintro e w' ⟨rfl, hw'⟩
  subst hw'
  go_wp2_with fail
  refine (still_Steps bb w1 d20).mono ?_
  rintro e w' ⟨rfl, hw'⟩
  subst hw'
  go_wp2_with fail
  refine (put_Msgs bb w1 d12).mono ?_
  rintro e w' ⟨rfl, hw'⟩
  subst hw'
  go_wp2_with fail
  refine (put_Steps bb w1 d20).mono ?_
  rintro e w' ⟨rfl, hw'⟩
  subst hw'
  go_wp2_with fail
  refine (put_Texts bb w1 d0).mono ?_
  rintro e w' ⟨rfl, hw'⟩
  subst hw'
  go_wp2_with fail
  refine (put_ints bb base iv N V n Z w1 H1.out.bk hN HN.out).mono ?_
  rintro e w2 ⟨rfl, hk2, hf2⟩
  have H2 := Lib.hid hk2
  have HCN2 := Lib.hid (H1.out.cn.keep hf2 (fun ⟨i, hi, e⟩ => H1.out.bk.kb i hi e))
  have HLW : ∀ b, kkF N V b → base ≤ b := fun b ⟨i, hi, e⟩ => ((H1.out.bk.kk i hi).lt b e).1
  have HLOW := Lib.hid HLW
  have HB2 : Hid (Below base w w2) := HB1.out.trans (hf2.below HS1.out HLW)
  have HS2 : Hid (base ≤ w2.heap.size) := Lib.hid (Nat.le_trans HS1.out hf2.size)
  clear hk2 hf2 HLW d0 d4 d6 d8 d10 d12 d14 d16 d18 d20
  have c0 : w2.cell? ⟨bb, 0, none⟩ = some (.slice none 0 0) := HCN2.out 0 (by omega) (by omega) (by omega)
  have c4 : w2.cell? ⟨bb, 4, none⟩ = some (.slice none 0 0) := HCN2.out 4 (by omega) (by omega) (by omega)
  have c6 : w2.cell? ⟨bb, 6, none⟩ = some (.slice none 0 0) := HCN2.out 6 (by omega) (by omega) (by omega)
  have c8 : w2.cell? ⟨bb, 8, none⟩ = some (.slice none 0 0) := HCN2.out 8 (by omega) (by omega) (by omega)
  have c10 : w2.cell? ⟨bb, 10, none⟩ = some (.slice none 0 0) := HCN2.out 10 (by omega) (by omega) (by omega)
  have c12 : w2.cell? ⟨bb, 12, none⟩ = some (.slice none 0 0) := HCN2.out 12 (by omega) (by omega) (by omega)
  have c14 : w2.cell? ⟨bb, 14, none⟩ = some (.slice none 0 0) := HCN2.out 14 (by omega) (by omega) (by omega)
  have c16 : w2.cell? ⟨bb, 16, none⟩ = some (.slice none 0 0) := HCN2.out 16 (by omega) (by omega) (by omega)
  have c18 : w2.cell? ⟨bb, 18, none⟩ = some (.slice none 0 0) := HCN2.out 18 (by omega) (by omega) (by omega)
  have c20 : w2.cell? ⟨bb, 20, none⟩ = some (.slice none 0 0) := HCN2.out 20 (by omega) (by omega) (by omega)
  go_wp2_with fail
  refine (put_Items bb w2 c4).mono ?_
  rintro e w' ⟨rfl, hw'⟩
  subst hw'
  go_wp2_with fail
  refine (put_Children bb w2 c6).mono ?_
  rintro e w' ⟨rfl, hw'⟩
  subst hw'
  go_wp2_with fail
  refine (put_Pairs bb w2 c8).mono ?_
  rintro e w' ⟨rfl, hw'⟩
  subst hw'
  go_wp2_with fail
  refine (put_Entries bb w2 c10).mono ?_
  rintro e w' ⟨rfl, hw'⟩
  subst hw'
  go_wp2_with fail
  refine (put_Dues bb w2 c14).mono ?_
  rintro e w' ⟨rfl, hw'⟩
  subst hw'
  go_wp2_with fail
  refine (put_Packets bb w2 c16).mono ?_
  rintro e w' ⟨rfl, hw'⟩
  subst hw'
  go_wp2_with fail
  refine (put_Events bb w2 c18).mono ?_
  rintro e w' ⟨rfl, hw'⟩
  subst hw'
  go_wp2_with fail
  refine (grow_Texts bb w2 c0).mono ?_
  rintro e w' ⟨rfl, hw'⟩
  subst hw'
  go_wp2_with fail
  refine (grow_ints bb base iv N V n w2 H2.out hN HN.out HS2.out).mono ?_
  rintro e w3 ⟨uv, U, rfl, hg3, hf3⟩
  have H3 := Lib.hid hg3
  have HCN3 := Lib.hid (HCN2.out.keep hf3 (fun ⟨i, hi, e⟩ => H2.out.kb i hi e))
  have HB3 : Hid (Below base w w3) := HB2.out.trans (hf3.below HS2.out HLOW.out)
  have HS3 : Hid (base ≤ w3.heap.size) := Lib.hid (Nat.le_trans HS2.out hf3.size)
  clear hg3 hf3 c0 c4 c6 c8 c10 c12 c14 c16 c18 c20
  have d0 : w3.cell? ⟨bb, 0, none⟩ = some (.slice none 0 0) := HCN3.out 0 (by omega) (by omega) (by omega)
  have d4 : w3.cell? ⟨bb, 4, none⟩ = some (.slice none 0 0) := HCN3.out 4 (by omega) (by omega) (by omega)
  have d6 : w3.cell? ⟨bb, 6, none⟩ = some (.slice none 0 0) := HCN3.out 6 (by omega) (by omega) (by omega)
  have d8 : w3.cell? ⟨bb, 8, none⟩ = some (.slice none 0 0) := HCN3.out 8 (by omega) (by omega) (by omega)
  have d10 : w3.cell? ⟨bb, 10, none⟩ = some (.slice none 0 0) := HCN3.out 10 (by omega) (by omega) (by omega)
  have d12 : w3.cell? ⟨bb, 12, none⟩ = some (.slice none 0 0) := HCN3.out 12 (by omega) (by omega) (by omega)
  have d14 : w3.cell? ⟨bb, 14, none⟩ = some (.slice none 0 0) := HCN3.out 14 (by omega) (by omega) (by omega)
  have d16 : w3.cell? ⟨bb, 16, none⟩ = some (.slice none 0 0) := HCN3.out 16 (by omega) (by omega) (by omega)
  have d18 : w3.cell? ⟨bb, 18, none⟩ = some (.slice none 0 0) := HCN3.out 18 (by omega) (by omega) (by omega)
  have d20 : w3.cell? ⟨bb, 20, none⟩ = some (.slice none 0 0) := HCN3.out 20 (by omega) (by omega) (by omega)
  go_wp2_with fail
  refine (grow_Items bb w3 d4).mono ?_
  rintro e w' ⟨rfl, hw'⟩
  subst hw'
  go_wp2_with fail
  refine (grow_Children bb w3 d6).mono ?_
  rintro e w' ⟨rfl, hw'⟩
  subst hw'
  go_wp2_with fail
  refine (grow_Pairs bb w3 d8).mono ?_
  rintro e w' ⟨rfl, hw'⟩
  subst hw'
  go_wp2_with fail
  refine (grow_Entries bb w3 d10).mono ?_
  rintro e w' ⟨rfl, hw'⟩
  subst hw'
  go_wp2_with fail
  refine (grow_Msgs bb w3 d12).mono ?_
  rintro e w' ⟨rfl, hw'⟩
  subst hw'
  go_wp2_with fail
  refine (grow_Dues bb w3 d14).mono ?_
  rintro e w' ⟨rfl, hw'⟩
  subst hw'
  go_wp2_with fail
  refine (grow_Packets bb w3 d16).mono ?_
  rintro e w' ⟨rfl, hw'⟩
  subst hw'
  go_wp2_with fail
  refine (grow_Events bb w3 d18).mono ?_
  rintro e w' ⟨rfl, hw'⟩
  subst hw'
  go_wp2_with fail
  refine (grow_Steps bb w3 d20).mono ?_
  rintro e w' ⟨rfl, hw'⟩
  subst hw'
  go_wp2_with fail
  refine (marked_Texts w3).mono ?_
  rintro e w' ⟨rfl, hw'⟩
  subst hw'
  go_wp2_with fail
  refine (marked_Texts w3).mono ?_
  rintro e w' ⟨rfl, hw'⟩
  subst hw'
  go_wp2_with fail
  refine (marked_ints _ base uv N U (fun i => n i + 72) w3 H3.out.ov H3.out.uu hN (fun i hi => by have := HN.out i hi; omega)).mono ?_
  rintro e w4 ⟨rfl, hb4⟩
  have H4 := Lib.hid (H3.out.below hb4)
  have HCN4 := Lib.hid (HCN3.out.keep (Fr.of_all (S := fun _ => False) hb4) (fun h => h))
  have HB4 : Hid (Below base w w4) := HB3.out.trans (hb4.mono HS3.out)
  have HS4 : Hid (base ≤ w4.heap.size) := Lib.hid (Nat.le_trans HS3.out hb4.size)
  have x2 := H4.out.bk.c2
  clear hb4 d0 d4 d6 d8 d10 d12 d14 d16 d18 d20
  go_wp2_with fail
  refine (marked_ints base base iv N V n w4 H4.out.bk.ri H4.out.bk.kk hN (fun i hi => by have := HN.out i hi; omega)).mono ?_
  rintro e w5 ⟨rfl, hb5⟩
  have HCN5 := Lib.hid (HCN4.out.keep (Fr.of_all (S := fun _ => False) hb5) (fun h => h))
  have HB5 : Hid (Below base w w5) := HB4.out.trans (hb5.mono HS4.out)
  clear hb5 x2
  have c0 : w5.cell? ⟨bb, 0, none⟩ = some (.slice none 0 0) := HCN5.out 0 (by omega) (by omega) (by omega)
  have c4 : w5.cell? ⟨bb, 4, none⟩ = some (.slice none 0 0) := HCN5.out 4 (by omega) (by omega) (by omega)
  have c6 : w5.cell? ⟨bb, 6, none⟩ = some (.slice none 0 0) := HCN5.out 6 (by omega) (by omega) (by omega)
  have c8 : w5.cell? ⟨bb, 8, none⟩ = some (.slice none 0 0) := HCN5.out 8 (by omega) (by omega) (by omega)
  have c10 : w5.cell? ⟨bb, 10, none⟩ = some (.slice none 0 0) := HCN5.out 10 (by omega) (by omega) (by omega)
  have c12 : w5.cell? ⟨bb, 12, none⟩ = some (.slice none 0 0) := HCN5.out 12 (by omega) (by omega) (by omega)
  have c14 : w5.cell? ⟨bb, 14, none⟩ = some (.slice none 0 0) := HCN5.out 14 (by omega) (by omega) (by omega)
  have c16 : w5.cell? ⟨bb, 16, none⟩ = some (.slice none 0 0) := HCN5.out 16 (by omega) (by omega) (by omega)
  have c18 : w5.cell? ⟨bb, 18, none⟩ = some (.slice none 0 0) := HCN5.out 18 (by omega) (by omega) (by omega)
  have c20 : w5.cell? ⟨bb, 20, none⟩ = some (.slice none 0 0) := HCN5.out 20 (by omega) (by omega) (by omega)
  go_wp2_with fail
  refine (marked_Items w5).mono ?_
  rintro e w' ⟨rfl, hw'⟩
  subst hw'
  go_wp2_with fail
  refine (marked_Items w5).mono ?_
  rintro e w' ⟨rfl, hw'⟩
  subst hw'
  go_wp2_with fail
  refine (marked_Children w5).mono ?_
  rintro e w' ⟨rfl, hw'⟩
  subst hw'
  go_wp2_with fail
  refine (marked_Children w5).mono ?_
  rintro e w' ⟨rfl, hw'⟩
  subst hw'
  go_wp2_with fail
  refine (marked_Pairs w5).mono ?_
  rintro e w' ⟨rfl, hw'⟩
  subst hw'
  go_wp2_with fail
  refine (marked_Pairs w5).mono ?_
  rintro e w' ⟨rfl, hw'⟩
  subst hw'
  go_wp2_with fail
  refine (marked_Entries w5).mono ?_
  rintro e w' ⟨rfl, hw'⟩
  subst hw'
  go_wp2_with fail
  refine (marked_Entries w5).mono ?_
  rintro e w' ⟨rfl, hw'⟩
  subst hw'
  go_wp2_with fail
  refine (marked_Msgs w5).mono ?_
  rintro e w' ⟨rfl, hw'⟩
  subst hw'
  go_wp2_with fail
  refine (marked_Msgs w5).mono ?_
  rintro e w' ⟨rfl, hw'⟩
  subst hw'
  go_wp2_with fail
  refine (marked_Dues w5).mono ?_
  rintro e w' ⟨rfl, hw'⟩
  subst hw'
  go_wp2_with fail
  refine (marked_Dues w5).mono ?_
  rintro e w' ⟨rfl, hw'⟩
  subst hw'
  go_wp2_with fail
  refine (marked_Packets w5).mono ?_
  rintro e w' ⟨rfl, hw'⟩
  subst hw'
  go_wp2_with fail
  refine (marked_Packets w5).mono ?_
  rintro e w' ⟨rfl, hw'⟩
  subst hw'
  go_wp2_with fail
  refine (marked_Events w5).mono ?_
  rintro e w' ⟨rfl, hw'⟩
  subst hw'
  go_wp2_with fail
  refine (marked_Events w5).mono ?_
  rintro e w' ⟨rfl, hw'⟩
  subst hw'
  go_wp2_with fail
  refine (marked_Steps w5).mono ?_
  rintro e w' ⟨rfl, hw'⟩
  subst hw'
  go_wp2_with fail
  refine (marked_Steps w5).mono ?_
  rintro e w' ⟨rfl, hw'⟩
  subst hw'
  go_wp2
  go_ret
  exact ⟨rfl, HB5.out⟩
end Go.Proofs.YtedcpckocedcoaaGreat
